/- Texts of this work, joined. -/
import Derived.Test.YtmicljipaiohkaaGreatZHSiteDoes1
import Derived.Deep.LoopGhost
import Derived.Tactics2
import Derived.WalkLawsBesides
import Derived.WalkSpells
import Derived.KernelRfl
import Derived.Deep.QuietTactic
import Derived.BigQuiet
import Derived.Outline
import Derived.Lib.Hide
import Derived.Deep.DeepFit
import Derived.Test.YtmicljipaiohkaaGreatProg
import Derived.Laws.BitsAllLaws
import Derived.Laws.BitsLemmas
import Derived.Deep.RegionHeld3
set_option linter.unusedSimpArgs false
set_option linter.unusedVariables false
set_option maxRecDepth 100000
set_option maxHeartbeats 16000000
namespace Go.Proofs.YtmicljipaiohkaaGreat
open Go Go.RowKit Go.Proofs.Tryz
open Go.Lib renaming hid → Xj
open _root_.List renaming getElem?_eq_getElem → Xk, mem_of_getElem? → Xl, map_cons → Xm, getElem?_eq_some_iff → Xn, map_append → Xo, setIfInBounds_toArray → Xp, length_take → Xq, take_length → Xt, set_cons_zero → Xu, map_nil → Xv, set_cons_succ → Xx, getElem?_map → Xz, length_cons → XA, all_eq_true → XC, length_map → XD, getElem?_append_right → XH, findIdx?_eq_some_iff_getElem → XI, length_drop → XJ, getD_eq_getElem?_getD → XK, take_of_length_le → XN, mem_map → XQ, getElem?_take_of_lt → XS, getElem?_eq_none → XT, any_eq_true → XU, replicate → XV, length_append → XY, length_nil → XZ, mem_iff_getElem → X0, getElem?_append_left → X2, mem_append → X3, append_assoc → X4, range → X5, mem_cons → X7, cons_append → X8, eq_nil_of_length_eq_zero → X9, nil_append → Ya, mem_singleton → Yc, mem_of_mem_drop → Yd, mem_of_mem_take → Yf, any_eq_false → Yh, ext_getElem? → Yj, getElem?_drop → Yk, take_append_of_le_length → Yl, getElem_mem → Ym, findIdx?_eq_none_iff → Yn, set_append_right → Yu, append_nil → Yw, getElem?_cons_succ → Yx, pairwise_cons → YC, size_toArray → YH, eraseIdx_eq_take_drop_succ → YK, drop_eq_getElem_cons → YQ, mem_range → YR, length_set → YV, filter_append → YW, take_append_drop → YX, filter_eq_self → Y0, all_eq_false → Y2, drop_length → Y7, mem_map_of_mem → Y8, length_filter_le → Za, length_pos_iff → Zd, map_congr_left → Zr, getElem_take → ZA, take_succ_cons → ZC, map_take → ZH, getElem?_range → ZU, take_zero → Z4, length → I'
open Go.World renaming size_alloc → Xr, heap_drewN → Xs, size_drew → Xw, cell? → YS, cell?_of_block → Zl
open _root_.Bool renaming and_eq_true → Xy, eq_iff_iff → Yi, and_self → Yp, true_and → Yr, and_true → YA, false_eq_true → YB, eq_false_iff → YE, or_eq_false_iff → Zm, not_eq_true' → Zz, not_eq_true → ZI, not_true → Z0
open _root_.Nat renaming le_refl → XB, zero_le → XE, zero_add → XG, reduceAdd → XM, lt_or_ge → XP, add_zero → XW, sub_zero → Yo, mul_le_mul_right → Yt, lt_of_lt_of_le → Yy, le_trans → Yz, sub_self → YG, not_lt_zero → YJ, lt_trichotomy → Zb, min_self → Zq, add_assoc → ZF, eq_zero_or_pos → ZJ, reduceLT → ZR, le_of_lt → p', and_two_pow_sub_one_eq_mod → U', one_le_two_pow → Z', not_lt → _g
open _root_.Option renaming map_eq_some_iff → XO, isSome_some → XR, some → XX, map_some → Ye, getD_some → YI, isSome_none → YZ, bind_some → Y6, isSome_iff_exists → Zf, map_none → Zg
open _root_.Array renaming getElem?_toList → X6, getElem?_eq_some_iff → Ys, getD_eq_getD_getElem? → Yv, getElem?_eq_none → YM, replicate → Y5
open _root_.Int renaming dvd_of_emod_eq_zero → YL, lt_irrefl → YN, le_refl → ZG, lt_or_le → z', dvd_trans → C'
theorem gu:∀(l:List Chunk),aG l l.length= .none
 |[]=>rfl
 |_::l=>gu l
structure TabOK (P:Program)(T:Nat→Option TI)(Q:Nat→Option Nat):Prop where
 t:∀t ti,T t=some ti→aU P t=some ti
 q:∀t n,Q t=some n→Bp P t n
 m:∀t ti n s,T t=some ti→ti.mp=some (n,s)→MapOK P t n s
theorem xE {P:Program}{t e:Nat}(h:P.underlying t=some (.pointer e))(a:Addr)(w:World):(Op.equal t (.pointer (some a)) (.pointer none)).run P w= .ok false w:=by
 unfold Op.equal;show (Op.equalIn (9999+1) t _ _).run P w=_;rw[Op.equalIn,Sem.run_bind,run_underlying h];rfl
theorem xF {P:Program}{t e:Nat}(h:P.underlying t=some (.pointer e))(w:World):(Op.equal t (.pointer none) (.pointer none)).run P w= .ok true w:=by
 unfold Op.equal;show (Op.equalIn (9999+1) t _ _).run P w=_;rw[Op.equalIn,Sem.run_bind,run_underlying h];rfl
theorem yK {X:Cfg}{ops:Array Oper}{s:FS}{o:Oper}(hd:∀d,o.dst=some d→d < X.n){ti:TI}{op:BinOp}{t t':Nat}{x y:Operand}{r:Bool}(ho:o.op= .binOp op t x y t')(ht:aU X.P t=some ti)(hb:ti.kind=3)(hx:ev s x= .d (.v (.pointer none)))(hy:ev s y= .d (.v (.pointer none)))
 (hr:(op= .eql∧r=true)∨(op= .neq∧r=false)):bJ X ops s o {pv:= .d (.v (.bool r))}:=
 aM hd fun s' he _ a w c hc=>by
  have h1:=df hc ((he x (by simp[ho,Op.operands])).trans hx);have h2:=df hc ((he y (by simp[ho,Op.operands])).trans hy);obtain⟨i,d,z,tk⟩:=iq ht;obtain⟨el,rfl⟩:∃el,d= .pointer el:=by
   have:=tk.kind;rw[hb]at this;cases d<;>simp[px]at this;exact⟨_,rfl⟩
  refine⟨.bool r,?_,.d _ _ (.v _)⟩;rcases hr with⟨rfl,rfl⟩|⟨rfl,rfl⟩<;>simp[execOp,ho,h1,h2,eqGuard,binOp,xF tk.und]
theorem uc {P:Program}{t e:Nat}(h:P.underlying t=some (.slice e))(a:Option Addr)(n c n' c':Nat)(w:World):(Op.equal t (.slice a n c) (.slice none n' c')).run P w= .ok a.isNone w:=by
 unfold Op.equal;show (Op.equalIn (9999+1) t _ _).run P w=_;rw[Op.equalIn,Sem.run_bind,run_underlying h];cases a<;>rfl
theorem qL {X:Cfg}{ops:Array Oper}{s:FS}{o:Oper}(hd:∀d,o.dst=some d→d < X.n){ti:TI}{op:BinOp}{t t' n' c':Nat}{x y:Operand}{r z:Bool}(ho:o.op= .binOp op t x y t')(ht:aU X.P t=some ti)(hb:ti.elem.isSome=true)
 (hx:(∃sz a l,ev s x= .d (.sl sz (a::l))∧z=false)∨∃ao n c,ev s x= .d (.v (.slice ao n c))∧z=ao.isNone) (hy:ev s y= .d (.v (.slice none n' c')))
 (hr:(op= .eql∧r=z)∨(op= .neq∧r=!z)):bJ X ops s o {pv:= .d (.v (.bool r))}:=
 aM hd fun s' he _ a w c hc=>by
  have e1:=bM hc x;rw[he x (by simp[ho,Op.operands])]at e1;have h2:=df hc ((he y (by simp[ho,Op.operands])).trans hy);generalize hu:a.eval x=u at e1;obtain⟨i,d,zz,tk⟩:=iq ht;obtain⟨el,rfl⟩:∃el,d= .slice el:=by
   have:=tk.elem;obtain⟨el,hel⟩:=Zf.1 hb;rw[hel]at this;cases d<;>simp[gq]at this;exact⟨_,rfl⟩
  obtain⟨ao,n,cap,rfl,hz⟩:∃ao n cap,u= .slice ao n cap∧z=ao.isNone:=by
   rcases hx with⟨sz,b,l,hx,rfl⟩|⟨ao,n,cap,hx,rfl⟩
   ·rw[hx]at e1;have e1:=cp e1;cases e1 with
    |sl _ _ b off cap=>exact⟨_,_,cap,rfl,rfl⟩
   ·rw[hx]at e1;have e1:=cp e1;cases e1;exact⟨_,_,_,rfl,rfl⟩
  subst hz;refine⟨.bool r,?_,.d _ _ (.v _)⟩;rcases hr with⟨rfl,rfl⟩|⟨rfl,rfl⟩<;>simp[execOp,ho,hu,h2,eqGuard,binOp,uc tk.und]
theorem kG {X:Cfg}{ops:Array Oper}{s:FS}{o:Oper}(hd:∀d,o.dst=some d→d < X.n){ti:TI}{op:BinOp}{t t':Nat}{x y:Operand}{r:Bool}(ho:o.op= .binOp op t x y t')(ht:aU X.P t=some ti)(hb:ti.kind=3)
 (hx:(∃k off,ev s x= .ptr k off)∨(∃k g sz i j,ev s x= .rp k g sz i j)∨∃ds,ev s x= .d (.ept ds)) (hy:ev s y= .d (.v (.pointer none)))
 (hr:(op= .eql∧r=false)∨(op= .neq∧r=true)):bJ X ops s o {pv:= .d (.v (.bool r))}:=
 aM hd fun s' he _ a w c hc=>by
  have h1:∃ad,a.eval x= .pointer (some ad):=by
   have:=bM hc x;rw[he x (by simp[ho,Op.operands])]at this;generalize a.eval x=u at this;rcases hx with⟨k,off,hx⟩|⟨k,g,sz,i,j,hx⟩|⟨ds,hx⟩<;>rw[hx]at this
   ·cases this;exact⟨_,rfl⟩
   ·cases this;exact⟨_,rfl⟩
   ·have:=cp this;cases this;exact⟨_,rfl⟩
  obtain⟨ad,h1⟩:=h1;have h2:=df hc ((he y (by simp[ho,Op.operands])).trans hy);obtain⟨i,d,z,tk⟩:=iq ht;obtain⟨el,rfl⟩:∃el,d= .pointer el:=by
   have:=tk.kind;rw[hb]at this;cases d<;>simp[px]at this;exact⟨_,rfl⟩
  refine⟨.bool r,?_,.d _ _ (.v _)⟩;rcases hr with⟨rfl,rfl⟩|⟨rfl,rfl⟩<;>simp[execOp,ho,h1,h2,eqGuard,binOp,xE tk.und]
theorem xG {X:Cfg}{ops:Array Oper}{s:FS}{o:Oper}(hd:∀d,o.dst=some d→d < X.n){x:Operand}{k g sz i j:Nat}(ho:o.op= .nilCheck x)(hx:ev s x= .rp k g sz i j):bJ X ops s o {pv:= .rp k g sz i j}:=
 aM hd fun s' he _ a w c hc=>by
  have:=bM hc x;rw[he x (by simp[ho,Op.operands]),hx]at this;generalize hu:a.eval x=u at this;cases this with
  |rp _ _ _ _ _ b n cap h=>exact⟨_,by simp[execOp,ho,hu],.rp k g sz i j b n cap h⟩
section
variable {X:Cfg}{ops:Array Oper}{e:cw}{hl:List Chunk}{o:Oper}{T:Nat→Option TI}{Q:Nat→Option Nat}(cq:TabOK X.P T Q)(hd:∀d,o.dst=some d→d < X.n){p:PV}{eff:List (Nat × Chunk)}{touch:List Nat}{side:Prop}
include hd
theorem J7 {x y z:Operand}(ho:o.op= .pick x y z)(h:qJ (dK e x) (dK e y) (dK e z)= .res p eff touch side)(_hs:side):bJ X ops (bQ e hl) o {pv:=p,eff:=eff,touch:=touch}:=by
 unfold qJ at h;split at h
 ·rename_i t hx;have key:=NI (X:=X) (ops:=ops) (s:=bQ e hl) hd ho ((aD e hl x).trans hx);rw[aD,aD]at key;split at h
  ·rename_i a b ha hb;cases h;rw[ha,hb]at key;cases t<;>exact key
  ·cases h;exact key
 ·cases h
theorem Qz {op:UnOp}{t:Nat}{x:Operand}(ho:o.op= .unOp op t x)(h:SE op (dK e x)= .res p eff touch side)(_hs:side):bJ X ops (bQ e hl) o {pv:=p,eff:=eff,touch:=touch}:=by
 unfold SE at h;split at h
 ·rename_i b hx;cases h;exact Qs hd ho ((aD e hl x).trans hx)
 ·rename_i k n hx;cases h;exact Qt hd ho ((aD e hl x).trans hx)
 ·cases h
theorem NR {x:Operand}(ho:o.op= .nilCheck x)(h:J1 (dK e x)= .res p eff touch side)(_hs:side):bJ X ops (bQ e hl) o {pv:=p,eff:=eff,touch:=touch}:=by
 unfold J1 at h;split at h
 ·rename_i k off hx;cases h;have:=tr (X:=X) (ops:=ops) (s:=bQ e hl) hd ho (.inl ⟨k,off,(aD e hl x).trans hx⟩);rwa [aD,hx]at this
 ·rename_i k g sz i j hx;cases h;exact xG hd ho ((aD e hl x).trans hx)
 ·rename_i cs hx;cases h;have:=tr (X:=X) (ops:=ops) (s:=bQ e hl) hd ho (.inr ⟨cs,(aD e hl x).trans hx⟩);rwa [aD,hx]at this
 ·cases h
include cq in
theorem NS {op:BinOp}{t t':Nat}{x y:Operand}(ho:o.op= .binOp op t x y t')(h:J2 (T t) (Q t) op (dK e x) (dK e y)= .res p eff touch side)(hs:side):bJ X ops (bQ e hl) o {pv:=p,eff:=eff,touch:=touch}:=by
 unfold J2 at h;split at h
 ·rename_i k m k' n hx hy;split at h
  ·rename_i hk;subst hk;split at h
   ·cases h;exact yv hd ho ((aD e hl x).trans hx) ((aD e hl y).trans hy) hs (.inl ⟨rfl,rfl⟩)
   ·cases h;exact yv hd ho ((aD e hl x).trans hx) ((aD e hl y).trans hy) hs (.inr ⟨rfl,rfl⟩)
   ·split at h
    ·rename_i r hr;cases h;exact Qu hd ho ((aD e hl x).trans hx) ((aD e hl y).trans hy) hr
    ·cases h
  ·split at h
   ·split at h
    ·rename_i r hr;cases h;exact BQ hd ho (.inl rfl) ((aD e hl x).trans hx) ((aD e hl y).trans hy) hr
    ·cases h
   ·split at h
    ·rename_i r hr;cases h;exact BQ hd ho (.inr rfl) ((aD e hl x).trans hx) ((aD e hl y).trans hy) hr
    ·cases h
   ·cases h
 ·rename_i m n hx hy;split at h
  ·cases h;exact Hu hd ho ((aD e hl x).trans hx) ((aD e hl y).trans hy) hs
  ·cases h;exact BK hd ho ((aD e hl x).trans hx) ((aD e hl y).trans hy) (.inl ⟨rfl,rfl⟩)
  ·cases h;exact BK hd ho ((aD e hl x).trans hx) ((aD e hl y).trans hy) (.inr ⟨rfl,rfl⟩)
  ·cases h
 ·rename_i m n hx hy;split at h
  ·rename_i ti ht;cases h;exact yw hd ho (cq.t t _ ht) hs ((aD e hl x).trans hx) ((aD e hl y).trans hy) (.inl ⟨rfl,rfl⟩)
  ·rename_i ti ht;cases h;exact yw hd ho (cq.t t _ ht) hs ((aD e hl x).trans hx) ((aD e hl y).trans hy) (.inr ⟨rfl,rfl⟩)
  ·cases h
 ·rename_i hx hy;split at h
  ·rename_i ti ht;cases h;exact yK hd ho (cq.t t _ ht) hs ((aD e hl x).trans hx) ((aD e hl y).trans hy) (.inl ⟨rfl,rfl⟩)
  ·rename_i ti ht;cases h;exact yK hd ho (cq.t t _ ht) hs ((aD e hl x).trans hx) ((aD e hl y).trans hy) (.inr ⟨rfl,rfl⟩)
  ·cases h
 ·rename_i k off hx hy;split at h
  ·rename_i ti ht;cases h;exact kG hd ho (cq.t t _ ht) hs (.inl ⟨k,off,(aD e hl x).trans hx⟩) ((aD e hl y).trans hy) (.inl ⟨rfl,rfl⟩)
  ·rename_i ti ht;cases h;exact kG hd ho (cq.t t _ ht) hs (.inl ⟨k,off,(aD e hl x).trans hx⟩) ((aD e hl y).trans hy) (.inr ⟨rfl,rfl⟩)
  ·cases h
 ·rename_i k g sz i j hx hy;split at h
  ·rename_i ti ht;cases h;exact kG hd ho (cq.t t _ ht) hs (.inr (.inl ⟨k,g,sz,i,j,(aD e hl x).trans hx⟩)) ((aD e hl y).trans hy) (.inl ⟨rfl,rfl⟩)
  ·rename_i ti ht;cases h;exact kG hd ho (cq.t t _ ht) hs (.inr (.inl ⟨k,g,sz,i,j,(aD e hl x).trans hx⟩)) ((aD e hl y).trans hy) (.inr ⟨rfl,rfl⟩)
  ·cases h
 ·rename_i ds hx hy;split at h
  ·rename_i ti ht;cases h;exact kG hd ho (cq.t t _ ht) hs (.inr (.inr ⟨ds,(aD e hl x).trans hx⟩)) ((aD e hl y).trans hy) (.inl ⟨rfl,rfl⟩)
  ·rename_i ti ht;cases h;exact kG hd ho (cq.t t _ ht) hs (.inr (.inr ⟨ds,(aD e hl x).trans hx⟩)) ((aD e hl y).trans hy) (.inr ⟨rfl,rfl⟩)
  ·cases h
 ·rename_i sz a l n' c' hx hy;split at h
  ·rename_i ti ht;cases h;exact qL hd ho (cq.t t _ ht) hs (.inl ⟨_,_,_,(aD e hl x).trans hx,rfl⟩) ((aD e hl y).trans hy) (.inl ⟨rfl,rfl⟩)
  ·rename_i ti ht;cases h;exact qL hd ho (cq.t t _ ht) hs (.inl ⟨_,_,_,(aD e hl x).trans hx,rfl⟩) ((aD e hl y).trans hy) (.inr ⟨rfl,rfl⟩)
  ·cases h
 ·rename_i ao n c n' c' hx hy;split at h
  ·rename_i ti ht;cases h;exact qL hd ho (cq.t t _ ht) hs (.inr ⟨_,_,_,(aD e hl x).trans hx,rfl⟩) ((aD e hl y).trans hy) (.inl ⟨rfl,rfl⟩)
  ·rename_i ti ht;cases h;exact qL hd ho (cq.t t _ ht) hs (.inr ⟨_,_,_,(aD e hl x).trans hx,rfl⟩) ((aD e hl y).trans hy) (.inr ⟨rfl,rfl⟩)
  ·cases h
 ·rename_i ds es hx hy;split at h
  ·rename_i n xs ys hq h1 h2;split at h
   ·cases h;exact Bq hd ho (cq.q t n hq) (.inl rfl) ((aD e hl x).trans hx) ((aD e hl y).trans hy) h1 h2 hs.1 hs.2
   ·cases h;have:=Bq (X:=X) (ops:=ops) (s:=bQ e hl) hd ho (cq.q t n hq) (.inr rfl) ((aD e hl x).trans hx) ((aD e hl y).trans hy) h1 h2 hs.1 hs.2;simpa using this
   ·cases h
  ·cases h
 ·cases h
include cq in
theorem Hw {t f:Nat}{x:Operand}(ho:o.op= .fieldAddr t x f)(h:u4 (T t) f (dK e x)= .res p eff touch side)(hs:side):bJ X ops (bQ e hl) o {pv:=p,eff:=eff,touch:=touch}:=by
 unfold u4 at h;split at h
 ·rename_i ti ht;split at h
  ·rename_i off sz hf;split at h
   ·rename_i ds hx;cases h;exact JL hd ho (cq.t t ti ht) hf hs ((aD e hl x).trans hx)
   ·rename_i k o' hx;cases h;exact Bt hd ho (cq.t t ti ht) hf hs ((aD e hl x).trans hx)
   ·rename_i k g sz' i j hx;cases h;exact Es hd ho (cq.t t ti ht) hf hs ((aD e hl x).trans hx)
   ·cases h
  ·cases h
 ·cases h
omit hd in
theorem sj {α:Type}{l:List α}{j:Nat}{d:α}{r:List α}(h:l.drop j=d::r):l[j]? =some d:=by
 have:=Yk (xs:=l) (i:=j) (j:=0);rw[h]at this;simpa using this.symm
include cq in
theorem J8 {t:Nat}{x:Operand}(ho:o.op= .load t x)(h:BR (T t) (aG hl) (dK e x)= .res p eff touch side)(hs:side):bJ X ops (bQ e hl) o {pv:=p,eff:=eff,touch:=touch}:=by
 unfold BR at h;split at h
 ·rename_i ti ht;have ht:=cq.t t ti ht;split at h
  ·rename_i ds hx;have hx:=(aD e hl x).trans hx;split at h
   ·rename_i pg;cases h;exact Bu hd ho ht hx hs (.inl ⟨pg,rfl⟩)
   ·rename_i pg;split at h
    ·rename_i d r;cases h;have hs':ti.size=1:=hs;exact Bu hd ho ht hx (by rw[hs'];simp) (.inr ⟨by simpa using pg,hs',rfl⟩)
    ·cases h
  ·rename_i k off hx;have hx:=(aD e hl x).trans hx;split at h
   ·rename_i TT cells hk;split at h
    ·rename_i pg;cases h;exact Bv hd ho ht hx (s:=bQ e hl) hk hs (.inl ⟨pg,rfl⟩)
    ·rename_i pg;split at h
     ·rename_i q r hc;cases h;have hs':ti.size=1:=hs;have hc':=sj hc;exact Bv hd ho ht hx (s:=bQ e hl) hk (by have:=(Xn.1 hc').1;omega) (.inr ⟨by simpa using pg,hs',hc'⟩)
     ·cases h
   ·cases h
  ·rename_i k g sz i j hx;have hx:=(aD e hl x).trans hx;split at h
   ·rename_i E sz' g' rows hk;split at h
    ·rename_i row bZ;split at h
     ·rename_i pg;cases h;obtain⟨rfl,rfl,hj⟩:=hs;exact yA hd ho ht hx (s:=bQ e hl) hk bZ hj (.inl ⟨pg,rfl⟩)
     ·rename_i pg;split at h
      ·rename_i d r hc;cases h;obtain⟨rfl,rfl,hs',hj⟩:=hs;have hc':=sj hc;exact yA hd ho ht hx (s:=bQ e hl) hk bZ (by omega) (.inr ⟨by simpa using pg,hs',hc'⟩)
      ·cases h
    ·cases h
   ·cases h
  ·cases h
 ·cases h
include cq in
theorem NT {op:BinOp}{t t':Nat}{x:Operand}(ho:o.op= .binOp op t x (.const .nilIface) t')(h:J3 (T t) op (dK e x)= .res p eff touch side)(hs:side):bJ X ops (bQ e hl) o {pv:=p,eff:=eff,touch:=touch}:=by
 unfold J3 at h;split at h
 ·rename_i ti ht hx;cases h;exact qI hd ho (cq.t _ _ ht) hs ((aD e hl x).trans hx) (.inl rfl) (.inl ⟨rfl,rfl⟩)
 ·rename_i ti ht hx;cases h;exact qI hd ho (cq.t _ _ ht) hs ((aD e hl x).trans hx) (.inl rfl) (.inr ⟨rfl,rfl⟩)
 ·rename_i ti ht hx;cases h;exact qI hd ho (cq.t _ _ ht) hs ((aD e hl x).trans hx) (.inr rfl) (.inl ⟨rfl,rfl⟩)
 ·rename_i ti ht hx;cases h;exact qI hd ho (cq.t _ _ ht) hs ((aD e hl x).trans hx) (.inr rfl) (.inr ⟨rfl,rfl⟩)
 ·cases h
include cq in
theorem Hy {t:Nat}{x y:Operand}(ho:o.op= .indexAddr t x y)(h:u5 T (T t) (aG hl) (dK e x) (dK e y)= .res p eff touch side)(hs:side):bJ X ops (bQ e hl) o {pv:=p,eff:=eff,touch:=touch}:=by
 unfold u5 at h;split at h
 ·rename_i ti ht;split at h
  ·rename_i el he;split at h
   ·rename_i te gR;split at h
    ·rename_i kd n hy;have hy:=(aD e hl y).trans hy;split at h
     ·rename_i sz rows hx;split at h
      ·rename_i row bZ;cases h;exact JO hd ho (cq.t t ti ht) he (cq.t el te gR) hs.1 ((aD e hl x).trans hx) hy hs.2 bZ
      ·cases h
     ·rename_i k g hx;split at h
      ·rename_i e' sz g' rows hk;cases h;obtain⟨rfl,rfl,h1,h2,h3⟩:=hs;exact Bz hd ho (cq.t t ti ht) he (cq.t _ te gR) h1 ((aD e hl x).trans hx) (s:=bQ e hl) hk hy h2 h3
      ·cases h
     ·rename_i k g sz st m hx;cases h;exact BF hd ho (cq.t t ti ht) he (cq.t _ te gR) hs.1 ((aD e hl x).trans hx) (s:=bQ e hl) hy hs.2.1 hs.2.2
     ·cases h
    ·cases h
   ·cases h
  ·split at h
   ·rename_i m el k off kd n ha hx hy;split at h
    ·rename_i te gR;cases h;exact ED hd ho (cq.t t ti ht) ha (cq.t el te gR) rfl ((aD e hl x).trans hx) ((aD e hl y).trans hy) hs.1 hs.2
    ·cases h
   ·cases h
 ·cases h
include cq in
theorem Hz {t:Nat}{x y:Operand}(ho:o.op= .index t x y)(h:u6 T (T t) (dK e x) (dK e y)= .res p eff touch side)(hs:side):bJ X ops (bQ e hl) o {pv:=p,eff:=eff,touch:=touch}:=by
 unfold u6 at h;split at h
 ·rename_i ti ht;split at h
  ·rename_i a kd n hx hy;cases h;exact BL hd ho (cq.t t ti ht) hs.1 ((aD e hl x).trans hx) ((aD e hl y).trans hy) hs.2.1 hs.2.2
  ·rename_i ds kd n hx hy;split at h
   ·rename_i m el ha;split at h
    ·rename_i te gR;split at h
     ·rename_i q hq;cases h;exact BO hd ho (cq.t t ti ht) ha (cq.t el te gR) hs.1 hs.2.1 ((aD e hl x).trans hx) ((aD e hl y).trans hy) hs.2.2.1 hs.2.2.2 hq
     ·cases h
    ·cases h
   ·cases h
  ·cases h
 ·cases h
theorem J9 {x:Operand}{i:Nat}(ho:o.op= .extract x i)(h:yJ (dK e x) i= .res p eff touch side)(_hs:side):bJ X ops (bQ e hl) o {pv:=p,eff:=eff,touch:=touch}:=by
 unfold yJ at h;split at h
 ·rename_i ds hx;split at h
  ·rename_i d hi;cases h;exact Er hd ho ((aD e hl x).trans hx) hi
  ·cases h
 ·rename_i ds hx;split at h
  ·rename_i d hi;cases h;exact Bw hd ho ((aD e hl x).trans hx) hi
  ·cases h
 ·cases h
omit hd in
theorem sk:∀{parts:List (Nat × Operand)}{pd:List (Nat × List PV)},sh e parts=some pd→pd.length=parts.length∧∀(j:Nat) (i:Nat) (x:Operand),parts[j]? =some (i,x)→pd[j]? =some (i,cV (dK e x))∧yy (dK e x)=true
 |[],pd,h=>by cases h;simp
 |(i,x)::l,pd,h=>by
  unfold sh at h;split at h
  ·rename_i bF;split at h
   ·rename_i pd' h2;cases h;obtain⟨q1,q2⟩:=sk h2;refine⟨by simp[q1],fun j i' y hj=>?_⟩;cases j with
    |zero=>
     simp at hj;obtain⟨rfl,rfl⟩:=hj;exact⟨rfl,bF⟩
    |succ j=>simpa using q2 j i' y (by simpa using hj)
   ·cases h
  ·cases h
include cq in
theorem HA {t:Nat}{parts:List (Nat × Operand)}(ho:o.op= .build t ⟨parts⟩)(h:u7 T (T t) e parts= .res p eff touch side)(_hs:side):bJ X ops (bQ e hl) o {pv:=p,eff:=eff,touch:=touch}:=by
 unfold u7 at h;split at h
 ·rename_i ti ht;split at h
  ·split at h
   ·rename_i n el ha;split at h
    ·rename_i te pd gR hp;split at h
     ·rename_i out hf;cases h;obtain⟨q1,q2⟩:=sk hp;refine BP hd ho (cq.t t ti ht) ha (cq.t el te gR) (pd:=pd) (by simpa using q1) (fun j i x hj=>?_) hf;obtain⟨r1,r2⟩:=q2 j i x (by simpa using hj);rw[aD];exact⟨r1,r2⟩
     ·cases h
    ·cases h
   ·cases h
  ·rename_i f fs gY;split at h
   ·rename_i pd hp;split at h
    ·rename_i out hf;cases h;obtain⟨q1,q2⟩:=sk hp;refine JQ hd ho (cq.t t ti ht) (by rw[gY];simp) (pd:=pd) (by simpa using q1) (fun j i x hj=>?_) (by rw[←hf,gY]);obtain⟨r1,r2⟩:=q2 j i x (by simpa using hj);rw[aD];exact⟨r1,r2⟩
    ·cases h
   ·cases h
 ·cases h
omit hd in
theorem BW:∀{parts:List (Nat × Operand)}{n:Nat}{rows:List (List PV)},BS e n parts=some rows→parts.length=rows.length∧∀(j:Nat) (i:Nat) (x:Operand),parts[j]? =some (i,x)→
 i=n+j∧rows[j]? =some (cV (dK e x))∧yy (dK e x)=true
 |[],n,rows,h=>by cases h;simp
 |(i,x)::l,n,rows,h=>by
  unfold BS at h;split at h
  ·rename_i bF;simp only[Xy,beq_iff_eq]at bF;split at h
   ·rename_i rows' h2;cases h;obtain⟨q1,q2⟩:=BW h2;refine⟨by simp[q1],fun j i' y hj=>?_⟩;cases j with
    |zero=>
     simp at hj;obtain⟨rfl,rfl⟩:=hj;exact⟨by omega,rfl,bF.1⟩
    |succ j=>
     obtain⟨r0,r1,r3⟩:=q2 j i' y (by simpa using hj);exact⟨by omega,by simpa using r1,r3⟩
   ·cases h
  ·cases h
omit hd in
theorem Ka:∀{rows:List (List PV)}{ds:List (List D)},Si rows=some ds→rows.length=ds.length∧∀(j:Nat) (r:List PV),rows[j]? =some r→∃d,ds[j]? =some d∧uR r=some d
 |[],ds,h=>by cases h;simp
 |r::l,ds,h=>by
  unfold Si at h;split at h
  ·rename_i d ds' h1 h2;cases h;obtain⟨q1,q2⟩:=Ka h2;refine⟨by simp[q1],fun j x hj=>?_⟩;cases j with
   |zero=>simp at hj;subst hj;exact⟨d,rfl,h1⟩
   |succ j=>simpa using q2 j x (by simpa using hj)
  ·cases h
omit hd in
theorem pQ {sz:Nat}:∀{rows:List (List PV)},u9 sz rows→∀r∈rows,r.length=sz
 |r::rows,h,q,hq=>by
  rcases X7.1 hq with rfl|hq
  ·exact h.1
  ·exact pQ h.2 q hq
include cq in
theorem NU (lq:X.m≤hl.length){t n:Nat}{parts:List (Nat × Operand)}(ho:o.op= .buildSlice t n ⟨parts⟩)(h:J4 T (T t) hl.length e n parts= .res p eff touch side)(hs:side):bJ X ops (bQ e hl) o {pv:=p,eff:=eff,touch:=touch}:=by
 unfold J4 at h;split at h
 ·rename_i ti ht;split at h
  ·rename_i el he;split at h
   ·rename_i te gR;split at h
    ·cases h;exact uX hd ho (cq.t t ti ht) he (cq.t el te gR) (s:=bQ e hl) (gu hl) (by omega)
    ·rename_i n' parts';split at h
     ·rename_i rows hr;obtain⟨q1,q2⟩:=BW hr;split at h
      ·rename_i ds fA;have fA:Si rows=some ds:=by
        by_cases hq:te.kind=2
        ·rw[if_pos hq]at fA;cases fA
        ·rw[if_neg hq]at fA;exact fA
       cases h;obtain⟨h1,h2,h3,h4⟩:=hs;obtain⟨g1,g2⟩:=Ka fA;refine xD hd ho (cq.t t ti ht) he (cq.t el te gR) rfl h1 (by omega) h2 (by omega) (by simp;omega) (fun j i x hj=>?_);obtain⟨r0,r1,r3⟩:=q2 j i x (by simpa using hj);obtain⟨d,g3,g4⟩:=g2 j _ r1;have bR:=pQ h4 _ (Xl r1);refine⟨by omega,d,g3,by rw[aD];exact g4,by rw[aD];exact r3,?_⟩;have:=congrArg I' (qE g4);rw[XD]at this;omega
      ·cases h;obtain⟨h1,h2,h3,h4⟩:=hs;refine uW hd ho (cq.t t ti ht) he (cq.t el te gR) rfl h1 (by omega) h2 h3 (by simp;omega) (s:=bQ e hl) (gu hl) (by omega) (fun j i x hj=>?_);obtain⟨r0,r1,r3⟩:=q2 j i x (by simpa using hj);rw[aD];exact⟨by omega,r1,r3,pQ h4 _ (Xl r1)⟩
     ·cases h
    ·cases h
   ·cases h
  ·cases h
 ·cases h
include cq in
theorem Kb (lq:X.m≤hl.length){t:Nat}{x y:Operand}(ho:o.op= .makeSlice t x y)(h:BT T (T t) hl.length (dK e x) (dK e y)= .res p eff touch side)(hs:side):bJ X ops (bQ e hl) o {pv:=p,eff:=eff,touch:=touch}:=by
 unfold BT at h;split at h
 ·rename_i ti ht;split at h
  ·rename_i el he;split at h
   ·rename_i te gR;split at h
    ·rename_i zv kx n ky m hz hx hy;cases h;obtain⟨h1,h2,h3,h4⟩:=hs;subst h1;exact Ae hd ho (cq.t t ti ht) he (cq.t el te gR) hz h2 h3 h4 (s:=bQ e hl) (by rw[aD];exact hx) (by rw[aD];exact hy) (gu hl) (by omega)
    ·cases h
   ·cases h
  ·cases h
 ·cases h
include cq in
theorem Kc {src dst:Nat}{x:Operand}(ho:o.op= .convert src dst x)(h:BU T (T src) (T dst) (dK e x)= .res p eff touch side)(hs:side):bJ X ops (bQ e hl) o {pv:=p,eff:=eff,touch:=touch}:=by
 unfold BU at h;split at h
 ·rename_i ts td h1 h2;split at h
  ·rename_i k k' n hi hx;cases h;exact EA hd ho (cq.t _ _ h1) (cq.t _ _ h2) hi ((aD e hl x).trans hx)
  ·rename_i rows hi hx;split at h
   ·rename_i el he;split at h
    ·rename_i te gR;split at h
     ·rename_i xs hb;cases h;exact BN hd ho (cq.t _ _ h1) (cq.t _ _ h2) he (cq.t _ _ gR) hs.1 hs.2 ((aD e hl x).trans hx) hb
     ·cases h
    ·cases h
   ·cases h
  ·cases h
 ·cases h
include cq in
theorem NV {t:Nat}{x:Operand}(ho:o.op= .call ⟨.builtin .len,⟨[x]⟩,⟨[t]⟩⟩)(h:J5 (T t) (aG hl) (dK e x)= .res p eff touch side)(hs:side):bJ X ops (bQ e hl) o {pv:=p,eff:=eff,touch:=touch}:=by
 unfold J5 at h;split at h
 ·rename_i ti ht;split at h
  ·rename_i el he;split at h
   ·rename_i sz rows hx;cases h;exact JP (ty:=0) hd ho (cq.t _ _ ht) he ((aD e hl x).trans hx) (.inl ⟨_,_,rfl,rfl⟩)
   ·rename_i hx;cases h;exact JP (ty:=0) hd ho (cq.t _ _ ht) he ((aD e hl x).trans hx) (.inr ⟨rfl,rfl⟩)
   ·rename_i k g hx;split at h
    ·rename_i E sz g' rows hk;cases h;subst hs;exact Hl hd ho (cq.t _ _ ht) he ((aD e hl x).trans hx) (s:=bQ e hl) hk
    ·cases h
   ·rename_i k g sz st n hx;cases h;exact Hq hd ho (cq.t _ _ ht) he ((aD e hl x).trans hx)
   ·cases h
  ·split at h
   ·rename_i a hx;cases h;exact Hv hd ho (cq.t _ _ ht) hs ((aD e hl x).trans hx)
   ·cases h
 ·cases h
omit hd in
theorem NW {sz:Nat}{y:PV}{news:List (List PV)}{ty:List Nat}(h:NQ (aG hl) sz y=some (news,ty)):SrcP (bQ e hl) sz y news ty:=by
 unfold NQ at h;split at h
 ·split at h
  ·rename_i e1;subst e1;cases h;exact .sl _
  ·cases h
 ·cases h;exact .nil _ _
 ·split at h
  ·rename_i E sz' g' rows hk;split at h
   ·rename_i e1;obtain⟨rfl,rfl⟩:=e1;cases h;exact .own _ _ _ _ hk
   ·cases h
  ·cases h
 ·split at h
  ·rename_i E sz' g' rows hk;split at h
   ·rename_i e1;obtain⟨rfl,rfl,rfl⟩:=e1;cases h;exact .osl _ _ _ _ _ _ hk
   ·cases h
  ·cases h
 ·cases h
include cq in
theorem NX (lq:X.m≤hl.length){t:Nat}{x y:Operand}(ho:o.op= .call ⟨.builtin .append,⟨[x,y]⟩,⟨[t,t]⟩⟩)(h:J6 T (T t) hl.length (aG hl) (dK e x) (dK e y)= .res p eff touch side)(hs:side):bJ X ops (bQ e hl) o {pv:=p,eff:=eff,touch:=touch}:=by
 unfold J6 at h;split at h
 ·rename_i ti ht;split at h
  ·rename_i el he;split at h
   ·rename_i te gR;split at h
    ·cases h
    ·rename_i hz;have rR:0 < te.size:=by omega
     have Eh:0 < te.bytes:=by omega
     have big:∀m:Nat,m*te.bytes≤140737488355328→m≤9223372036854775807:=fun m hm=>by
      have:=Nat.le_mul_of_pos_right m Eh;omega
     split at h
     ·rename_i news ty rQ;have rQ:=NW (e:=e) (hl:=hl) rQ;rw[←aD e hl]at rQ;split at h
      ·rename_i k g hx;split at h
       ·rename_i e' sz g' rows hk;cases h;obtain⟨rfl,rfl,rfl,hb⟩:=hs;exact Hm hd ho (cq.t _ _ ht) he (cq.t _ _ gR) rfl rR ((aD e hl x).trans hx) (s:=bQ e hl) hk rQ (big _ hb) hb
       ·cases h
      ·rename_i hx;cases h;exact zZ hd ho (cq.t _ _ ht) he (cq.t _ _ gR) rfl rR ((aD e hl x).trans hx) (s:=bQ e hl) (gu hl) (by omega) rQ (big _ hs) hs
      ·rename_i k g sz st n hx;split at h
       ·rename_i e' sz' g' rows hk;cases h;obtain⟨rfl,rfl,rfl,rfl,rfl,h1,h2⟩:=hs;exact z0 hd ho (cq.t _ _ ht) he (cq.t _ _ gR) rfl rR ((aD e hl x).trans hx) (s:=bQ e hl) hk h1 rQ h2
       ·cases h
      ·cases h
     ·cases h
   ·cases h
  ·cases h
 ·cases h
include cq in
theorem HB {t:Nat}{x:Operand}{lo hi mx:Option Operand}(ho:o.op= .slice t x lo hi mx)(h:ve T (T t) (aG hl) (dK e x) (lo.map (dK e)) (hi.map (dK e)) (mx.map (dK e))= .res p eff touch side)(hs:side):bJ X ops (bQ e hl) o {pv:=p,eff:=eff,touch:=touch}:=by
 have hm:∀y:Option Operand,y.map (dK e)=y.map (ev (bQ e hl)):=fun y=>by cases y<;>simp[aD]
 rw[hm lo,hm hi]at h;unfold ve at h;split at h
 ·rename_i ti ht;split at h
  ·rename_i el he;split at h
   ·rename_i te gR;split at h
    ·rename_i DU;have DU:mx=none:=by simpa using DU
     subst DU;split at h
     ·rename_i sz rows hx;split at h
      ·rename_i l r jb j7;cases h;exact Ho hd ho (cq.t _ _ ht) he (cq.t _ _ gR) hs.1 ((aD e hl x).trans hx) jb j7 hs.2.1 hs.2.2
      ·cases h
     ·rename_i k g hx;split at h
      ·rename_i e' sz g' hk;split at h
       ·rename_i l r jb j7;cases h;obtain⟨rfl,rfl,h1,rfl,rfl⟩:=hs;exact Aa hd ho (cq.t _ _ ht) he (cq.t _ _ gR) h1 ((aD e hl x).trans hx) (s:=bQ e hl) hk jb j7
       ·cases h
      ·rename_i e' sz g' rows bB hk;split at h
       ·rename_i l r jb j7;cases h;obtain⟨rfl,rfl,h1,h2,h3,h4⟩:=hs;exact BD hd ho (cq.t _ _ ht) he (cq.t _ _ gR) h1 ((aD e hl x).trans hx) (s:=bQ e hl) hk h2 jb j7 h3 h4
       ·cases h
      ·cases h
     ·rename_i k g sz st n hx;split at h
      ·rename_i e' sz' g' rows hk;split at h
       ·rename_i l r jb j7;cases h;obtain⟨rfl,rfl,rfl,h1,h2,h3,h4⟩:=hs;exact BE hd ho (cq.t _ _ ht) he (cq.t _ _ gR) h1 ((aD e hl x).trans hx) (s:=bQ e hl) hk h2 jb j7 h3 h4
       ·cases h
      ·cases h
     ·cases h
    ·rename_i m DU;split at h
     ·rename_i k g k1 n1 k2 n2 k3 n3 hx jb j7;split at h
      ·rename_i e' sz g' rows hk;cases h;obtain⟨rfl,rfl,h1,h2,h3,h4,h5,h6⟩:=hs;cases lo with
       |none=>cases jb
       |some y1=>cases hi with
        |none=>cases j7
        |some y2=>cases mx with
         |none=>cases DU
         |some y3=>
          simp only[Ye,XX.injEq]at jb j7 DU;exact Hp hd ho (cq.t _ _ ht) he (cq.t _ _ gR) h1 ((aD e hl x).trans hx) (s:=bQ e hl) hk h2 jb j7 ((aD e hl y3).trans DU) h3 h4 h5 h6
      ·cases h
     ·cases h
   ·cases h
  ·split at h
   ·rename_i a hx DU;have DU:mx=none:=by simpa using DU
    subst DU;split at h
    ·rename_i l r jb j7;cases h;exact BM hd ho (cq.t _ _ ht) hs.1 ((aD e hl x).trans hx) jb j7 hs.2.1 hs.2.2
    ·cases h
   ·cases h
 ·cases h
include cq in
theorem HC {t:Nat}{x:Operand}(ho:o.op= .call ⟨.builtin .clear,⟨[x]⟩,⟨[t]⟩⟩)(h:vf T (T t) (aG hl) (dK e x)= .res p eff touch side)(hs:side):bJ X ops (bQ e hl) o {pv:=p,eff:=eff,touch:=touch}:=by
 unfold vf at h;split at h
 ·rename_i ti ht;split at h
  ·rename_i el he;split at h
   ·rename_i te gR;split at h
    ·rename_i k g sz st n hx;split at h
     ·rename_i e' sz' g' rows hk;cases h;obtain⟨rfl,rfl,rfl,h1,h2,h3⟩:=hs;exact BC hd ho (cq.t _ _ ht) he (cq.t _ _ gR) h1 ((aD e hl x).trans hx) (s:=bQ e hl) hk h2 h3
     ·cases h
    ·cases h
   ·cases h
  ·cases h
 ·cases h
include cq in
theorem HD {t:Nat}{x y:Operand}(ho:o.op= .store t x y)(h:vd (T t) (aG hl) o.dst (dK e x) (dK e y)= .res p eff touch side)(hs:side):bJ X ops (bQ e hl) o {pv:=p,eff:=eff,touch:=touch}:=by
 unfold vd at h;split at h
 ·rename_i ti ht sX;split at h
  ·rename_i k off hx;split at h
   ·rename_i TT cells hk;split at h
    ·rename_i bF;cases h;have:=JS (X:=X) (ops:=ops) hd ho sX (cq.t _ _ ht) ((aD e hl x).trans hx) (s:=bQ e hl) hk (y:=y) (by rw[aD];exact bF) (by rw[aD];exact hs.1) hs.2;rwa [aD]at this
    ·cases h
   ·cases h
  ·rename_i k g sz i j hx;split at h
   ·rename_i E sz' g' rows hk;split at h
    ·rename_i row bZ;split at h
     ·rename_i bF;cases h;obtain⟨rfl,rfl,h1,h2⟩:=hs;have:=Ev (X:=X) (ops:=ops) hd ho sX (cq.t _ _ ht) ((aD e hl x).trans hx) (s:=bQ e hl) hk bZ (y:=y) (by rw[aD];exact bF) (by rw[aD];exact h1) h2;rwa [aD]at this
     ·cases h
    ·cases h
   ·cases h
  ·cases h
 ·cases h
theorem BX (lq:X.m≤hl.length){t:Nat}(ho:o.op= .makeMap t none)(h:oc (T t) hl.length= .res p eff touch side):bJ X ops (bQ e hl) o {pv:=p,eff:=eff,touch:=touch}:=by
 unfold oc at h;split at h
 ·split at h
  ·cases h;exact Ez hd ho (s:=bQ e hl) (gu hl) (by omega)
  ·cases h
 ·cases h
include cq in
theorem HE (lq:X.m≤hl.length){t:Nat}{m:Operand}(ho:o.op= .range t m)(h:vg (T t) (aG hl) hl.length (dK e m)= .res p eff touch side)(hs:side):bJ X ops (bQ e hl) o {pv:=p,eff:=eff,touch:=touch}:=by
 unfold vg at h;split at h
 ·rename_i ti ht;split at h
  ·rename_i n sB Tt;split at h
   ·rename_i k hm;split at h
    ·rename_i n' sB' ents hk;cases h;obtain⟨rfl,rfl⟩:=hs;exact JZ (X:=X) (ops:=ops) hd ho (cq.m _ _ _ _ ht Tt) ((aD e hl m).trans hm) (s:=bQ e hl) hk (gu hl) (by omega)
    ·cases h
   ·cases h
  ·cases h
 ·cases h
omit cq in
theorem HF {x:Operand}(ho:o.op= .entry x)(h:vh (aG hl) (dK e x)= .res p eff touch side):bJ X ops (bQ e hl) o {pv:=p,eff:=eff,touch:=touch}:=by
 unfold vh at h;split at h
 ·rename_i k hx;split at h
  ·rename_i n sB ents seen hk;split at h
   ·rename_i i hi;split at h
    ·rename_i kv G9;cases h;exact J0 (X:=X) (ops:=ops) hd ho ((aD e hl x).trans hx) (s:=bQ e hl) hk hi G9
    ·cases h
   ·cases h
  ·cases h
 ·cases h
include cq in
theorem EE {t:Nat}{m x:Operand}{ok:Bool}(ho:o.op= .lookup t m x ok)(h:qK (T t) (aG hl) (dK e m) (dK e x) ok= .res p eff touch side)(hs:side):bJ X ops (bQ e hl) o {pv:=p,eff:=eff,touch:=touch}:=by
 unfold qK at h;split at h
 ·rename_i ti ht;split at h
  ·rename_i n sB Tt;split at h
   ·rename_i k hm;split at h
    ·rename_i n' sB' ents hk;split at h
     ·rename_i xs hx;cases h;obtain⟨rfl,rfl,h3⟩:=hs;exact Hs (X:=X) (ops:=ops) hd ho (cq.m _ _ _ _ ht Tt) ((aD e hl m).trans hm) (s:=bQ e hl) hk (by rw[aD];exact hx) h3
     ·cases h
    ·cases h
   ·cases h
  ·cases h
 ·cases h
include cq in
theorem yL {t:Nat}{m x y:Operand}(ho:o.op= .mapUpdate t m x y∨o.op= .insert t m x y)(h:si (T t) (aG hl) o.dst (dK e m) (dK e x) (dK e y)= .res p eff touch side)(hs:side):bJ X ops (bQ e hl) o {pv:=p,eff:=eff,touch:=touch}:=by
 unfold si at h;split at h
 ·rename_i ti ht sX;split at h
  ·rename_i n sB Tt;split at h
   ·rename_i k hm;split at h
    ·rename_i n' sB' ents hk;split at h
     ·rename_i xs v hx hy;cases h;obtain⟨rfl,rfl,h3⟩:=hs;exact Ac (X:=X) (ops:=ops) hd ho sX (cq.m _ _ _ _ ht Tt) ((aD e hl m).trans hm) (s:=bQ e hl) hk (by rw[aD];exact hx) h3 ((aD e hl y).trans hy)
     ·cases h
    ·cases h
   ·cases h
  ·cases h
 ·cases h
end
section
variable {X:Cfg}{ops:Array Oper}{e:cw}{hl:List Chunk}{o:Oper}{T:Nat→Option TI}{Q:Nat→Option Nat}(cq:TabOK X.P T Q)(hd:∀d,o.dst=some d→d < X.n)
include cq hd
theorem Kd (lq:X.m≤hl.length){p:PV}{eff:List (Nat × Chunk)}{touch:List Nat}{side:Prop}(h:Nl T Q e hl o= .res p eff touch side)(hs:side):bJ X ops (bQ e hl) o {pv:=p,eff:=eff,touch:=touch}:=by
 unfold Nl at h;split at h
 ·rename_i x ho;cases h;have:=NH (X:=X) (ops:=ops) (s:=bQ e hl) hd ho;rwa [aD]at this
 ·rename_i x ho;cases h;have:=Hj (X:=X) (ops:=ops) (s:=bQ e hl) hd ho;rwa [aD]at this
 ·rename_i ho;exact J7 hd ho h hs
 ·rename_i ho;exact Qz hd ho h hs
 ·rename_i ho;exact NR hd ho h hs
 ·rename_i ho;exact NT cq hd ho h hs
 ·rename_i ho;exact NS cq hd ho h hs
 ·rename_i ho;exact Hw cq hd ho h hs
 ·rename_i ho;exact J8 cq hd ho h hs
 ·rename_i ho;exact Hy cq hd ho h hs
 ·rename_i ho;exact Hz cq hd ho h hs
 ·rename_i ho;exact J9 hd ho h hs
 ·rename_i t ho;split at h
  ·rename_i ti ht;cases h;exact JR hd ho (cq.t _ _ ht) (s:=bQ e hl) (gu hl) (by omega)
  ·cases h
 ·rename_i t x ho;split at h
  ·rename_i bF;cases h;have:=Qv (X:=X) (ops:=ops) (s:=bQ e hl) hd ho (gu hl) (by omega) (by rw[aD];exact bF);rwa [aD]at this
  ·cases h
 ·rename_i ho;exact HD cq hd ho h hs
 ·rename_i ho;exact HA cq hd ho h hs
 ·rename_i ho;exact NU cq hd lq ho h hs
 ·rename_i g caps ho;cases h;have:=By (X:=X) (ops:=ops) (s:=bQ e hl) hd ho;have e1:(List.map (ev (bQ e hl)) caps)=caps.map (dK e):=Zr fun x _=>aD e hl x;simp only at this;rwa [e1]at this
 ·rename_i ho;exact Kc cq hd ho h hs
 ·rename_i ho;exact NV cq hd ho h hs
 ·rename_i ho;exact HB cq hd ho h hs
 ·rename_i ho;exact HC cq hd ho h hs
 ·rename_i x y t t' ho;split at h
  ·rename_i e1;subst e1;exact NX cq hd lq ho h hs
  ·cases h
 ·rename_i x y tys ho;split at h
  ·rename_i k m k' n hx hy;split at h
   ·rename_i e1;subst e1;cases h;exact Qw hd ho ((aD e hl x).trans hx) ((aD e hl y).trans hy)
   ·cases h
  ·cases h
 ·rename_i x y tys ho;split at h
  ·rename_i k m k' n hx hy;split at h
   ·rename_i e1;subst e1;cases h;exact Qx hd ho ((aD e hl x).trans hx) ((aD e hl y).trans hy)
   ·cases h
  ·cases h
 ·unfold BV at h;split at h<;>cases h
 ·rename_i ho;exact Kb cq hd lq ho h hs
 ·rename_i ho;exact BX hd lq ho h
 ·rename_i ho;exact EE cq hd ho h hs
 ·rename_i ho;exact HE cq hd lq ho h hs
 ·rename_i ho;exact HF hd ho h
 ·rename_i ho;exact yL cq hd (.inl ho) h hs
 ·rename_i ho;exact yL cq hd (.inr ho) h hs
 ·cases h
omit cq hd in
theorem Ke {g:Nat}{ps:List PV}(h:Nl T Q e hl o= .call g ps):∃(fo:Operand) (args:List Operand) (tys:Array Nat) (caps:List PV),o.op= .call ⟨.value fo,⟨args⟩,tys⟩∧(dK e fo= .clo g caps∨∃cd:List D,dK e fo= .d (.clo g cd)∧caps=cd.map .d)∧ps=args.map (dK e)++caps:=by
 have key:∀(fo:Operand) (args:List Operand) (tys:Array Nat),o.op= .call ⟨.value fo,⟨args⟩,tys⟩→BV (dK e fo) (args.map (dK e))= .call g ps→∃(fo:Operand) (args:List Operand) (tys:Array Nat) (caps:List PV),o.op= .call ⟨.value fo,⟨args⟩,tys⟩∧(dK e fo= .clo g caps∨∃cd:List D,dK e fo= .d (.clo g cd)∧caps=cd.map .d)∧ps=args.map (dK e)++caps:=by
  intro fo args tys ho h;unfold BV at h;split at h
  ·rename_i g' caps Pu;cases h;exact⟨fo,args,tys,caps,ho,.inl Pu,rfl⟩
  ·rename_i g' cd Pu;cases h;exact⟨fo,args,tys,_,ho,.inr ⟨cd,Pu,rfl⟩,rfl⟩
  ·cases h
 unfold Nl at h;split at h<;>first
  |(rename_i ho;exact key _ _ _ ho h)
  |(exfalso;revert h;unfold qJ;repeat(first|(split)|(intro h;cases h)))
  |(exfalso;revert h;unfold SE;repeat(first|(split)|(intro h;cases h)))
  |(exfalso;revert h;unfold J1;repeat(first|(split)|(intro h;cases h)))
  |(exfalso;revert h;unfold J3;repeat(first|(split)|(intro h;cases h)))
  |(exfalso;revert h;unfold J2;repeat(first|(split)|(intro h;cases h)))
  |(exfalso;revert h;unfold u4;repeat(first|(split)|(intro h;cases h)))
  |(exfalso;revert h;unfold BR;repeat(first|(split)|(intro h;cases h)))
  |(exfalso;revert h;unfold u6;repeat(first|(split)|(intro h;cases h)))
  |(exfalso;revert h;unfold u5;repeat(first|(split)|(intro h;cases h)))
  |(exfalso;revert h;unfold yJ;repeat(first|(split)|(intro h;cases h)))
  |(exfalso;revert h;unfold vd;repeat(first|(split)|(intro h;cases h)))
  |(exfalso;revert h;unfold u7;repeat(first|(split)|(intro h;cases h)))
  |(exfalso;revert h;unfold J4;repeat(first|(split)|(intro h;cases h)))
  |(exfalso;revert h;unfold BU;repeat(first|(split)|(intro h;cases h)))
  |(exfalso;revert h;unfold J5;repeat(first|(split)|(intro h;cases h)))
  |(exfalso;revert h;unfold J6;repeat(first|(split)|(intro h;cases h)))
  |(exfalso;revert h;unfold ve;repeat(first|(split)|(intro h;cases h)))
  |(exfalso;revert h;unfold vf;repeat(first|(split)|(intro h;cases h)))
  |(exfalso;revert h;unfold BT;repeat(first|(split)|(intro h;cases h)))
  |(exfalso;revert h;unfold oc;repeat(first|(split)|(intro h;cases h)))
  |(exfalso;revert h;unfold qK;repeat(first|(split)|(intro h;cases h)))
  |(exfalso;revert h;unfold vg;repeat(first|(split)|(intro h;cases h)))
  |(exfalso;revert h;unfold vh;repeat(first|(split)|(intro h;cases h)))
  |(exfalso;revert h;unfold si;repeat(first|(split)|(intro h;cases h)))
  |(exfalso;revert h;repeat(first|(split)|(intro h;cases h)))
end
def gw (e:cw)(dst:Option Nat)(p:PV):cw:=
 match dst with
 |some d=>(d,p)::e
 |none=>e
def bw:List Chunk→Nat→Chunk→List Chunk
 |[],0,c=>[c]
 |[],_+1,_=>[]
 |_::l,0,c=>c::l
 |a::l,k+1,c=>a::bw l k c
def pR:List (Nat × Chunk)→List Chunk→List Chunk
 |[],h=>h
 |(k,c)::l,h=>bw (pR l h) k c
theorem gL:∀{h:List Chunk}{k:Nat}{c:Chunk},k≤h.length→∀k',aG (bw h k c) k'=if k'=k then c else aG h k'
 |[],0,c,_,k'=>by cases k'<;>simp[bw,aG]
 |[],k+1,c,h,k'=>by simp at h
 |a::l,0,c,_,k'=>by cases k'<;>simp[bw,aG]
 |a::l,k+1,c,h,k'=>by
  cases k' with
  |zero=>simp[bw,aG]
  |succ k'=>
   simp only[bw,aG];rw[gL (by simpa using h)];simp
theorem BY:∀{h:List Chunk}{k:Nat}{c:Chunk},h.length≤(bw h k c).length
 |[],0,c=>by simp[bw]
 |[],k+1,c=>by simp[bw]
 |a::l,0,c=>by simp[bw]
 |a::l,k+1,c=>by
  have:=BY (h:=l) (k:=k) (c:=c);simpa[bw]using this
theorem qM:∀{eff:List (Nat × Chunk)}{h:List Chunk},h.length≤(pR eff h).length
 |[],_=>XB _
 |(_,_)::_,_=>Yz qM BY
theorem sn:∀{eff:List (Nat × Chunk)}{h:List Chunk},(∀kc∈eff,kc.1≤h.length)→∀k',aG (pR eff h) k'=cH eff (aG h) k'
 |[],_,_,_=>rfl
 |(k,c)::l,h,hk,k'=>by
  simp only[pR,cH];rw[gL (Yz (hk (k,c) (by simp)) qM),sn fun kc Nq=>hk kc (by simp[Nq])]
theorem oU {e:cw}{h:List Chunk}{dst:Option Nat}{p:PV}{eff:List (Nat × Chunk)}{touch:List Nat}(hk:∀kc∈eff,kc.1≤h.length):(bQ e h).app dst {pv:=p,eff:=eff,touch:=touch}=bQ (gw e dst p) (pR eff h):=by
 have h1:aG (pR eff h)=cH eff (aG h):=funext (sn hk);cases dst with
 |none=>simp only[FS.app,FS.put,bQ,gw,h1]
 |some d=>
  simp only[FS.app,FS.put,bQ,gw,h1];congr 1
theorem qN:∀{h:List Chunk}{k:Nat}{c:Chunk},k < h.length→(bw h k c).length=h.length
 |a::l,0,c,_=>rfl
 |a::l,k+1,c,hk=>by simp only[bw,XA];rw[qN (by simpa using hk)]
theorem BZ:∀{h:List Chunk}{c:Chunk},(bw h h.length c).length=h.length+1
 |[],c=>rfl
 |a::l,c=>by simp only[bw,XA];rw[BZ]
def iC (ρ:Nat→Nat):Nat→List Chunk→List Chunk→List Chunk
 |_,[],h=>h
 |j,c::l,h=>iC ρ (j+1) l (bw h (ρ j) (lu ρ c))
theorem vj {ρ:Nat→Nat}(inj:∀i j,ρ i=ρ j→i=j){c:Chunk}:∀(l:List Chunk) (i j:Nat) (h:Nat→Chunk),j < i→∀k,cH (ko ρ i l) (fun k'=>if k'=ρ j then c else h k') k=if k=ρ j then c else cH (ko ρ i l) h k
 |[],i,j,h,hj,k=>rfl
 |d::l,i,j,h,hj,k=>by
  simp only[ko,cH];by_cases e:k=ρ i
  ·rw[if_pos e,if_pos e,if_neg (fun e2=>by have:=inj _ _ (e.symm.trans e2);omega)]
  ·rw[if_neg e,if_neg e];exact vj inj l (i+1) j h (by omega) k
theorem vl {ls:List Nat}{nk:Nat}(lm:ls.Nodup)(hlt:∀k∈ls,k < nk):∀(l:List Chunk) (i:Nat) (h:List Chunk),(i≤ls.length→h.length=nk)→(ls.length≤i→h.length=nk+(i - ls.length))→
 (∀k,aG (iC (eF ls nk) i l h) k=cH (ko (eF ls nk) i l) (aG h) k)∧h.length≤(iC (eF ls nk) i l h).length
 |[],i,h,_,_=>⟨fun _=>rfl,XB _⟩
 |c::l,i,h,h1,h2=>by
  have inj:∀i j,eF ls nk i=eF ls nk j→i=j:=fun i j e=>Af lm hlt e;rcases XP i ls.length with hi|hi
  ·have bR:=h1 (by omega);have hk:eF ls nk i < h.length:=by rw[bR];exact hlt _ (Xl (mS hi))
   have gS:=qN (c:=lu (eF ls nk) c) hk;obtain⟨q1,q2⟩:=vl lm hlt l (i+1) (bw h (eF ls nk i) (lu (eF ls nk) c)) (fun _=>gS.trans bR) (fun hge=>by rw[gS,bR];omega);refine⟨fun k=>?_,by rw[gS]at q2;exact q2⟩;simp only[iC,ko,cH];rw[q1 k,show aG (bw h (eF ls nk i) (lu (eF ls nk) c))=fun k'=>if k'=eF ls nk i then lu (eF ls nk) c else aG h k' from funext (gL (p' hk))];exact vj inj l (i+1) i _ (by omega) k
  ·have bR:=h2 hi;have hk:eF ls nk i=h.length:=by
    have:=kn ls nk (i - ls.length);rw[show ls.length+(i - ls.length)=i by omega]at this;omega
   have gS:(bw h (eF ls nk i) (lu (eF ls nk) c)).length=h.length+1:=by rw[hk];exact BZ
   obtain⟨q1,q2⟩:=vl lm hlt l (i+1) (bw h (eF ls nk i) (lu (eF ls nk) c)) (fun hge=>by omega) (fun _=>by rw[gS,bR];omega);refine⟨fun k=>?_,Yz (by omega) q2⟩;simp only[iC,ko,cH];rw[q1 k,show aG (bw h (eF ls nk i) (lu (eF ls nk) c))=fun k'=>if k'=eF ls nk i then lu (eF ls nk) c else aG h k' from funext (gL (by omega))];exact vj inj l (i+1) i _ (by omega) k
def Aj (dj:Option Nat)(e:cw):Option (Option Bool):=
 match dj with
 |none=>some none
 |some t=>match ft e t with
  | .d (.v (.bool b))=>some (some b)
  | .d (.v (.tuple _))=>some none
  |_=>none
def so (ds:List (Option Nat))(e:cw)(o:Oper):Option Bool:=
 match o.guard with
 |none=>some true
 |some (j,want)=>(Aj (ds.getD j none) e).map (·==some want)
theorem HG {ops:Array Oper}{e:cw}{h:List Chunk}{o:Oper}:nR ops (bQ e h) o=so (ops.toList.map (·.dst)) e o:=by
 unfold nR so;cases o.guard with
 |none=>rfl
 |some jw=>
  obtain⟨j,want⟩:=jw;simp only;congr 1;unfold zS Aj;have:(ops[j]?).bind (·.dst)=(ops.toList.map (·.dst)).getD j none:=by
   simp only[XK,Xz,X6];cases ops[j]? <;>rfl
  rw[this];rfl
def Kf (n:Nat)(o:Oper):Bool:=match o.dst with|some d=>decide (d < n)|none=>true
def SF (h:Nat→Chunk)(ps:List PV):Option (List D):=cM (vw h) ps
def QA (h:Nat→Chunk)(ps:List PV):List Nat:=jq (tc h) ps
def pS (ls:List Nat)(nk n:Nat):List Nat:=(X5 n).map (eF ls nk)
def Ak (P:Program)(r:SR)(dst:Option Nat)(e:cw)(h:List Chunk)(sm:List (List Nat × List Nat))(R:cw→List Chunk→List (List Nat × List Nat)→Prop):Prop:=
 match r with
 | .no=>False
 | .res p eff touch side=>side∧(eff.all fun kc=>decide (kc.1≤h.length))=true∧R (gw e dst p) (pR eff h) ((eff.map (·.1),touch)::sm)
 | .call g ps=>(∃ds r,SF (aG h) ps=some ds∧af P g ds r∧(QA (aG h) ps=[]∨r.flat=true)∧R (gw e dst (.d r)) h (([],QA (aG h) ps)::sm))∨
  (∃ls args h0 r h1,MSpec P g args h0 r h1∧ps=iR (eF ls h.length) args∧ls.length=h0.length∧ls.Nodup∧(∀k∈ls,k < h.length)∧ax (aG h) (eF ls h.length) 0 h0∧
   R (gw e dst (ren (eF ls h.length) r)) (iC (eF ls h.length) 0 h1 h) ((pS ls h.length h1.length,pS ls h.length h1.length)::sm))∨
  ∃ls args h0 r,MSpec P g args h0 r h0∧ps=iR (eF ls h.length) args∧ls.length=h0.length∧ls.Nodup∧(∀k∈ls,k < h.length)∧ax (aG h) (eF ls h.length) 0 h0∧
   R (gw e dst (ren (eF ls h.length) r)) h (([],pS ls h.length h0.length)::sm)
def ud (P:Program)(n:Nat)(T:Nat→Option TI)(Q:Nat→Option Nat)(draw:Bool)(ops:Array Oper)(ds:List (Option Nat)):List Oper→cw→List Chunk→List (List Nat × List Nat)→(cw→List Chunk→Prop)→Prop
 |[],e,h,sm,K=>(draw=true→(nT ops sm.reverse&&nV ops)=true)∧K e h
 |o::l,e,h,sm,K=>
  match so ds e o with
  |some g=>
   Kf n o=true∧
   (g=true→Ak P (Nl T Q e h o) o.dst e h sm (fun e' h' sm'=>ud P n T Q draw ops ds l e' h' sm' K))∧
   (g=false→ud P n T Q draw ops ds l (gw e o.dst (.d (.v undef))) h (([],[])::sm) K)
  |none=>False
theorem vm {X:Cfg}{T:Nat→Option TI}{Q:Nat→Option Nat}(cq:TabOK X.P T Q){draw:Bool}{ops:Array Oper}{K:cw→List Chunk→Prop}:∀(l:List Oper) (i:Nat) (e:cw) (h:List Chunk) (sm:List (List Nat × List Nat)),X.m≤h.length→ops.toList.drop i=l→i≤ops.size→
 ud X.P X.n T Q draw ops (ops.toList.map (·.dst)) l e h sm K→∃its e' h',kl X ops (bQ e h) i its∧r7 (bQ e h) its=bQ e' h'∧(draw=true→(nT ops (sm.reverse++En its)&&nV ops)=true)∧K e' h'
 |[],i,e,h,sm,lq,hl,hi,hs=>by
  refine⟨[],e,h,?_,rfl,by simpa[En]using hs.1,hs.2⟩;have:=congrArg I' hl;simp at this;simp only[kl];omega
 |o::l,i,e,h,sm,lq,hl,hi,hs=>by
  have hlt:i < ops.size:=by
   have:=congrArg I' hl;simp at this;omega
  have P8:ops[i]? =some o:=by
   have:=Yk (xs:=ops.toList) (i:=i) (j:=0);rw[hl]at this;simpa using this.symm
  have hl':ops.toList.drop (i+1)=l:=by
   rw[←List.drop_drop,hl];rfl
  unfold ud at hs;split at hs
  ·rename_i g hg;obtain⟨sX,h1,h2⟩:=hs;have hd:∀d,o.dst=some d→d < X.n:=by
    intro d hd;unfold Kf at sX;rw[hd]at sX;simpa using sX
   have Tu:nR ops (bQ e h) o=some g:=HG.trans hg;have step:∀(res:Res) (e2:cw) (h2:List Chunk),JF X ops (bQ e h) ⟨o,g,res⟩→(bQ e h).app o.dst res=bQ e2 h2→h.length≤h2.length→ud X.P X.n T Q draw ops (ops.toList.map (·.dst)) l e2 h2 ((res.eff.map (·.1),res.touch)::sm) K→
    ∃its e' h',kl X ops (bQ e h) i its∧r7 (bQ e h) its=bQ e' h'∧(draw=true→(nT ops (sm.reverse++En its)&&nV ops)=true)∧K e' h':=by
    intro res e2 h2 Ju Tv bR hs;obtain⟨its,e',h',t1,t2,t3,t4⟩:=vm cq l (i+1) e2 h2 _ (by omega) hl' (by omega) hs;refine⟨⟨o,g,res⟩::its,e',h',⟨P8,Ju,by rw[Tv];exact t1⟩,?_,fun Ef=>?_,t4⟩
    ·show r7 ((bQ e h).app o.dst res) its=_;rw[Tv];exact t2
    ·have:=t3 Ef;simpa[En]using this
   cases g with
   |true=>
    have h1:=h1 rfl;unfold Ak at h1;split at h1
    ·exact h1.elim
    ·rename_i p eff touch side lR;obtain⟨Tw,U8,w8⟩:=h1;have hk:∀kc∈eff,kc.1≤h.length:=fun kc Nq=>by
      have:=XC.1 U8 kc Nq;simpa using this
     exact step ⟨p,eff,touch⟩ _ _ ⟨Tu,fun _=>Kd cq hd lq lR Tw,fun hf=>by cases hf⟩ (oU hk) qM w8
    ·rename_i g ps lR;obtain⟨fo,args,tys,caps,ho,hf,rfl⟩:=Ke lR;have e1:(List.map (ev (bQ e h)) args)=args.map (dK e):=Zr fun x _=>aD e h x;have hf':ev (bQ e h) fo= .clo g caps∨∃cd:List D,ev (bQ e h) fo= .d (.clo g cd)∧caps=cd.map .d:=by rw[aD];exact hf
     rcases h1 with⟨ds,r,hv,hp,gY,w8⟩|⟨ls,margs,h0,r,w9,hM,ly,g1,g2,g3,g4,w8⟩|⟨ls,margs,h0,r,hM,ly,g1,g2,g3,g4,w8⟩
     ·have:=NL (X:=X) (ops:=ops) (s:=bQ e h) hd ho hf' (by simp only;rw[e1];exact hv) hp (by simp only;rw[e1];exact gY);simp only at this;rw[e1]at this;exact step ⟨.d r,[],_⟩ _ h ⟨Tu,fun _=>this,fun hf=>by cases hf⟩ (oU (fun kc h=>by simp at h)) (XB _) w8
     ·have:=BJ (X:=X) (ops:=ops) (s:=bQ e h) (ls:=ls) (nk:=h.length) hd ho hf' hM (by simp only;rw[e1];exact ly) g1 g2 g3 g4 (fun i _=>md h (h.length+i) (by omega)) lq;obtain⟨q1,q2⟩:=vl g2 g3 w9 0 h (fun _=>rfl) (fun h0=>by omega);refine step ⟨_,_,_⟩ (gw e o.dst (ren (eF ls h.length) r)) (iC (eF ls h.length) 0 w9 h) ⟨Tu,fun _=>this,fun hf=>by cases hf⟩ ?_ q2 ?_
      ·have h3:aG (iC (eF ls h.length) 0 w9 h)=cH (ko (eF ls h.length) 0 w9) (aG h):=funext q1;cases hdd:o.dst with
       |none=>simp only[FS.app,FS.put,bQ,gw,h3]
       |some d=>
        simp only[FS.app,FS.put,bQ,gw,h3];congr 1
      ·have h4:(ko (eF ls h.length) 0 w9).map (·.1)=pS ls h.length w9.length:=by
        rw[sg];exact Zr fun j _=>by rw[XG]
       simp only;rw[h4];exact w8
     ·have:=JY (X:=X) (ops:=ops) (s:=bQ e h) (ls:=ls) (nk:=h.length) hd ho hf' hM (by simp only;rw[e1];exact ly) g1 g2 g3 g4 lq;exact step ⟨ren (eF ls h.length) r,[],_⟩ _ h ⟨Tu,fun _=>this,fun hf=>by cases hf⟩ (oU (fun kc h=>by simp at h)) (XB _) w8
   |false=>
    exact step El _ h ⟨Tu,(fun hf=>(by cases hf)),fun _=>⟨rfl,hd⟩⟩ (oU (fun kc h=>by simp at h)) (XB _) (h2 rfl)
  ·exact hs.elim
theorem Al {X:Cfg}{T:Nat→Option TI}{Q:Nat→Option Nat}(cq:TabOK X.P T Q)(hm:X.P.follows .mixedOrders=true){id:Nat}{draw:Bool}{ops:Array Oper}{K:cw→List Chunk→Prop}{e:cw}{h:List Chunk}{a:Act}{w:World}{R:Exit→Act→World→Prop}(lq:X.m≤h.length)
 (hs:ud X.P X.n T Q draw ops (ops.toList.map (·.dst)) ops.toList e h [] K) (hr:kk X (bQ e h) a w) (hR:∀e' h' a' w',K e' h'→kk X (bQ e' h') a' w'→R .normal a' w'):(Code.region id ops draw).wp X.P R a w:=by
 obtain⟨its,e',h',t1,t2,t3,t4⟩:=vm cq ops.toList 0 e h [] lq rfl (XE _) hs;refine Bo hm id draw t1 (fun hd=>?_) hr (fun a' w' hr'=>hR e' h' a' w' t4 (by rw[←t2];exact hr'));have:=t3 hd;simpa using this
def eA (P:Program)(n m:Nat)(e:cw)(h:List Chunk)(e':cw)(h':List Chunk):Prop:=∀X:Cfg,X.P=P→X.n=n→X.m=m→∀a w,kk X (bQ e h) a w→kk X (bQ e' h') a w
def RK (X:Cfg)(K:Exit→cw→List Chunk→Prop)(x:Exit)(a:Act)(w:World):Prop:=∃e h,K x e h∧kk X (bQ e h) a w
def tz (P:Program)(n m:Nat)(c:Code)(K:Exit→cw→List Chunk→Prop)(e:cw)(h:List Chunk):Prop:=∀X:Cfg,X.P=P→X.n=n→X.m=m→∀a w,kk X (bQ e h) a w→c.wp P (RK X K) a w
def pT:List PV→Nat→cw
 |[],_=>[]
 |p::l,i=>(i,p)::pT l (i+1)
theorem yM:∀(ps:List PV) (i t:Nat),ft (pT ps i) t=if i≤t then (match ps[t - i]? with|some p=>p|none=> .any)else .any
 |[],i,t=>by simp[pT,ft]
 |d::l,i,t=>by
  simp only[pT,ft];by_cases h:t=i
  ·subst h;simp
  ·rw[if_neg h,yM l (i+1) t];by_cases h2:i≤t
   ·rw[if_pos h2,if_pos (by omega),show t - i=(t - (i+1))+1 by omega,Yx]
   ·rw[if_neg h2,if_neg (by omega)]
def F6 (T:Nat→Option TI)(e:cw)(h:List Chunk):ResultVar→Option PV
 | .tmp t=>some (ft e t)
 | .cell a t=>
  match ft e a,T t with
  | .ptr k off,some ti=>
   match aG h k with
   | .box _ cells=>
    if off+ti.size≤cells.length then
     if ti.agg then some (r8 ((cells.drop off).take ti.size))
     else match cells.drop off with
      |p::_=>if ti.size=1 then some p else none
      |[]=>none
    else none
   |_=>none
  |_,_=>none
def pC (T:Nat→Option TI)(e:cw)(h:List Chunk):List ResultVar→Option (List PV)
 |[]=>some []
 |r::l=>match F6 T e h r,pC T e h l with|some d,some ds=>some (d::ds)|_,_=>none
def xH:List PV→PV
 |[p]=>p
 |ps=>JM ps
def ai (d d':D):Prop:=∀(M:Nat→Prop) (w:World) (v:Value),RepD M w d v→RepD M w d' v
theorem ai.refl (d:D):ai d d:=fun _ _ _ h=>h
theorem ai.nil (sz:Nat):ai (.v (.slice none 0 0)) (.sl sz []):=fun _ _ _ h=>by cases h;exact .nil _ _ _ (by omega)
def pU:List D→List D→Prop
 |[],[]=>True
 |a::l,b::m=>ai a b∧pU l m
 |_,_=>False
theorem uy:∀{l m:List D},pU l m→l.length=m.length∧∀(j:Nat) (a b:D),l[j]? =some a→m[j]? =some b→ai a b
 |[],[],_=>⟨rfl,fun j a b h=>by simp at h⟩
 |[],_::_,h=>h.elim
 |_::_,[],h=>h.elim
 |a::l,b::m,⟨h1,h2⟩=>by
  obtain⟨q1,q2⟩:=uy h2;refine⟨by simp[q1],fun j x y hx hy=>?_⟩;cases j with
  |zero=>simp at hx hy;subst hx;subst hy;exact h1
  |succ j=>exact q2 j x y (by simpa using hx) (by simpa using hy)
theorem vn {M:Nat→Prop}{w:World}{l m:List D}{vs:List Value}(h:pU l m)(hr:cu M w l vs):cu M w m vs:=by
 obtain⟨q1,q2⟩:=uy h;refine⟨q1 ▸ hr.1,fun j d x hj hx=>?_⟩;have hlt:j < l.length:=by rw[q1];exact(Xn.1 hj).1
 have hl:l[j]? =some l[j]:=Xk hlt;exact q2 j _ d hl hj M w x (hr.2 j _ x hl hx)
theorem ai.agg {l m:List D}(h:pU l m)(h1:m.all D.one=true):ai (.agg l) (.agg m):=fun M w v hr=>by
 cases hr with
 |agg _ vs hl _ bA=>
  have:=vn h ⟨hl,bA⟩;exact .agg m vs this.1 (by simpa using h1) this.2
theorem ai.tup {l m:List D}(h:pU l m):ai (.tup l) (.tup m):=fun M w v hr=>by
 cases hr with
 |tup _ vs hl bA=>
  have:=vn h ⟨hl,bA⟩;exact .tup m vs this.1 this.2
theorem af.args {P:Program}{f:Nat}{ds ds':List D}{r:D}(h:af P f ds' r)(hd:pU ds ds'):af P f ds r:=⟨h.1,fun M w vs hM hG fA=>h.2 M w vs hM hG (vn hd fA)⟩
theorem af.res {P:Program}{f:Nat}{ds:List D}{r r':D}(h:af P f ds r)(hr:ai r r'):af P f ds r':=⟨h.1,fun M w vs hM hG fA=>(h.2 M w vs hM hG fA).mono fun e w' ⟨v,he,hv,hx⟩=>⟨v,he,hr M w' v hv,hx⟩⟩
def qO (T:Nat→Option TI)(rs:List ResultVar)(r:D)(x:Exit)(e:cw)(h:List Chunk):Prop:=(x= .normal∨x= .ret)∧∃ps d,pC T e h rs=some ps∧vw (aG h) (xH ps)=some d∧ai d r
def xI (P:Program)(m:Nat)(T:Nat→Option TI)(rs:List ResultVar)(r:PV)(h1:List Chunk)(x:Exit)(e:cw)(h:List Chunk):Prop:=(x= .normal∨x= .ret)∧∃ps,pC T e h rs=some ps∧eA P 1 m [(0,xH ps)] h [(0,r)] h1
def pV (tmps:Array Value):ResultVar→Sem Value
 | .tmp t=>pure (tmps.getD t undef)
 | .cell a t=>do loadVar t (←asAddr (tmps.getD a undef))
theorem tB {P:Program}{tmps:Array Value}{w:World}:∀(rs:List ResultVar) (vs:List Value),rs.length=vs.length→
 (∀(j:Nat) (r:ResultVar) (v:Value),rs[j]? =some r→vs[j]? =some v→(pV tmps r).run P w= .ok v w)→(rs.mapM (pV tmps)).run P w= .ok vs w
 |[],[],_,_=>by simp
 |[],_::_,h,_=>by simp at h
 |_::_,[],h,_=>by simp at h
 |r::rs,v::vs,h,hr=>by
  have h0:=hr 0 r v rfl rfl;have ih:=tB (P:=P) (tmps:=tmps) (w:=w) rs vs (by simpa using h) fun j r v h1 h2=>hr (j+1) r v (by simpa using h1) (by simpa using h2);rw[List.mapM_cons,Sem.run_bind,h0];simp only[Result.andThen_ok,Sem.run_bind,ih];rfl
theorem NY {X:Cfg}{T:Nat→Option TI}{Q:Nat→Option Nat}(cq:TabOK X.P T Q){e:cw}{h:List Chunk}{a:Act}{w:World}{c:Cx}(hc:RealC X (bQ e h) a w c)(rv:ResultVar)(p:PV)(zN:F6 T e h rv=some p):
 ∃v,(pV a.tmps rv).run X.P w= .ok v w∧RepP c w p v:=by
 cases rv with
 |tmp t=>cases zN;exact⟨_,rfl,hc.env t⟩
 |cell b t=>
  simp only[F6]at zN;split at zN
  ·rename_i k off ti hb' ht;split at zN
   ·rename_i TT cells hk;split at zN
    ·rename_i cT;have a9:=hc.chunk k;have hk':(bQ e h).heap k= .box TT cells:=hk;rw[hk']at a9;have MA:=hc.env b;have jm:(bQ e h).env b= .ptr k off:=hb';rw[jm]at MA;generalize hu:a.tmps.getD b undef=u at MA;cases MA with
     |ptr _ _ bb hbb=>
      cases a9 with
      |box _ _ b'' us hb'' hh nF h1=>
       rw[hbb]at hb'';cases hb'';have hul:us.length=cells.length:=nF.1.symm;have bR:((us.drop off).take ti.size).length=ti.size:=by rw[Xq,XJ];omega
       have dC:∀(j:Nat) (v:Value),((us.drop off).take ti.size)[j]? =some v→w.cell? ⟨bb,off+j,none⟩=some v:=fun j v hj=>by
        simp[YS,hh,(eI hj).2]
       have Qd:∀(h0:ti.agg=false→∃v,(us.drop off).take ti.size=[v]),(loadVar t ⟨bb,off,none⟩).run X.P w= .ok (if ti.agg then .agg ((us.drop off).take ti.size).toArray else ((us.drop off).take ti.size).headD undef) w:=by
        intro h0;have:=mQ (cq.t t ti ht) w bb off ((us.drop off).take ti.size) bR dC h0;simpa[Instr.loadAt,Instr.sureAddr]using this
       cases pg:ti.agg with
       |true=>
        rw[pg,if_pos rfl]at zN;cases zN;have hl:=Qd (fun h=>by rw[pg]at h;cases h);rw[pg,if_pos rfl]at hl;exact⟨_,by simp[pV,hu,asAddr,hl],qF (nF.part off ti.size) (fun d hd=>h1 d (Yd (Yf hd)))⟩
       |false=>
        rw[pg,if_neg (by simp)]at zN;split at zN
        ·rename_i q l Ef;split at zN
         ·rename_i h1';cases zN;have hp:=sj Ef;obtain⟨v,hv⟩:∃v,us[off]? =some v:=⟨us[off]'(by omega),Xk _⟩;have eS:(us.drop off).take ti.size=[v]:=by
           rw[h1',YQ (by omega)];simp only[ZC,Z4];rw[Xk (by omega)]at hv;simpa using hv
          have hl:=Qd (fun _=>⟨v,eS⟩);rw[pg,if_neg (by simp),eS]at hl;exact⟨v,by simp[pV,hu,asAddr,hl],nF.2 off p v hp hv⟩
         ·cases zN
        ·cases zN
    ·cases zN
   ·cases zN
  ·cases zN
theorem F7 {X:Cfg}{T:Nat→Option TI}{Q:Nat→Option Nat}(cq:TabOK X.P T Q){e:cw}{h:List Chunk}{a:Act}{w:World}{c:Cx}(hc:RealC X (bQ e h) a w c){fn:Func}{ps:List PV}(gh:pC T e h fn.results.toList=some ps):
 ∃v,(results fn a.tmps).run X.P w= .ok v w∧RepP c w (xH ps) v:=by
 have Tx:∀(rs:List ResultVar) (ps:List PV),pC T e h rs=some ps→∃vs:List Value,rs.length=vs.length∧bH c w ps vs∧
  (∀(j:Nat) (r:ResultVar) (v:Value),rs[j]? =some r→vs[j]? =some v→(pV a.tmps r).run X.P w= .ok v w):=by
  intro rs;induction rs with
  |nil=>
   intro ds fA;simp[pC]at fA;subst fA;exact⟨[],rfl,⟨rfl,fun j d x h=>by simp at h⟩,fun j r v h=>by simp at h⟩
  |cons rv rs ih=>
   intro ds fA;simp only[pC]at fA;split at fA
   ·rename_i d ds' h1 h2;cases fA;obtain⟨v,Bl,Ty⟩:=NY cq hc rv d h1;obtain⟨vs,g1,g2,g3⟩:=ih ds' h2;refine⟨v::vs,by simp[g1],⟨by simp[g2.1],fun j d x hj hx=>?_⟩,fun j r x hj hx=>?_⟩
    ·cases j with
     |zero=>simp at hj hx;subst hj;subst hx;exact Ty
     |succ j=>exact g2.2 j d x (by simpa using hj) (by simpa using hx)
    ·cases j with
     |zero=>simp at hj hx;subst hj;subst hx;exact Bl
     |succ j=>exact g3 j r x (by simpa using hj) (by simpa using hx)
   ·cases fA
 obtain⟨vs,g1,g2,g3⟩:=Tx _ _ gh;have ct:=tB (P:=X.P) (tmps:=a.tmps) (w:=w) fn.results.toList vs g1 g3;have qo:(results fn a.tmps).run X.P w= .ok (if h:vs.length=1 then vs[0]else .tuple vs.toArray) w:=by
  have e1:results fn a.tmps=(do let vs ←fn.results.mapM (pV a.tmps);pure (if h:vs.size=1 then vs[0]else .tuple vs)):=by
   unfold results;congr 1
  rw[e1,Sem.run_bind,Array.mapM_eq_mapM_toList];simp[ct]
 refine⟨_,qo,?_⟩;by_cases h1:vs.length=1
 ·rw[dif_pos h1];obtain⟨d,rfl⟩:=List.length_eq_one_iff.1 (g2.1.trans h1);exact g2.2 0 d _ rfl (Xk (by omega))
 ·rw[dif_neg h1];have:xH ps=JM ps:=by
   unfold xH;split
   ·exact absurd g2.1.symm h1
   ·rfl
  rw[this];exact JN g2
theorem B0 {c:Cx}{w:World}{ps:List PV}{vs:List Value}{n:Nat}(fA:bH c w ps vs)(t:Nat):RepP c w (ft (pT ps 0) t) ((vs.toArray++Y5 (n - vs.toArray.size) undef).getD t undef):=by
 rw[yM];rw[if_pos (XE _),Yo];cases hd:ps[t]? with
 |none=>exact .any _
 |some d=>
  have hlt:t < vs.length:=by rw[←fA.1];exact(Xn.1 hd).1
  have hv:vs[t]? =some vs[t]:=Xk hlt;have:=fA.2 t d _ hd hv;simp only[Yv,Array.getElem?_append,YH,hlt,if_true,List.getElem?_toArray,hv,YI];exact this
theorem B1 {P:Program}{f:Nat}{fn:Func}{c:Code}{T:Nat→Option TI}{Q:Nat→Option Nat}(cq:TabOK P T Q)(hf:P.funcs[f]? =some fn)(hb:fn.body=some c)(hn:xB P f){ds:List D}{r:D}(hl:ds.length≤fn.ntmps)
 (hp:tz P fn.ntmps 0 c (qO T fn.results.toList r) (pT (ds.map .d) 0) []):af P f ds r:=by
 refine⟨hn,fun M w vs hM hG fA=>?_⟩;have P9:vs.length=ds.length:=fA.1.symm;let c0:Cx:={M:=M,bl:=fun _=>none,ov:=fun _ _=>none}
 let X:Cfg:={P:=P,n:=fn.ntmps,m:=0,w0:=w,M0:=M,L:=fun _=>False,c0:=c0}
 have mL:kk X (bQ (pT (ds.map .d) 0) []) {tmps:=vs.toArray++Y5 (fn.ntmps - vs.toArray.size) undef,defers:=[]} w:=by
  refine⟨c0,by simp[X];omega,rfl,ExtL.refl _ _,hG.keep ⟨XB _,fun _ _ _=>rfl,fun b _ h=>h.elim id False.elim⟩,fun b hb=>⟨hM b hb,id⟩,fun b=>⟨.inl,fun h=>?_⟩,fun k b h=>?_,fun k k' b h _=>?_,fun t=>B0 (qD (c:=c0) fA) t,fun k=>?_,fun k hk=>absurd hk (YJ _)⟩
  ·rcases h with h|⟨k,h⟩
   ·exact h
   ·simp[bQ,aG,Cx.block]at h
  ·simp[bQ,aG,Cx.block]at h
  ·simp[bQ,aG,Cx.block]at h
  ·simp only[bQ,aG];exact .none rfl fun _=>rfl
 refine calls_of_wp hf hb (wp_mono (hp X rfl rfl rfl _ _ mL) fun ex a w' hq=>?_);obtain⟨e,h,⟨hx,ps,d,gh,hv,hle⟩,hr⟩:=hq;obtain⟨cx,hc⟩:=hr;obtain⟨v,ct,bA⟩:=F7 cq hc gh;have hd:=kM hc (T:=tc (aG h) (xH ps)) 6 hv (fun _ h=>h) bA;have zM:RepD M w' d v:=by
  refine hd.keep ⟨XB _,fun _ _ _=>rfl,fun b _ hb=>⟨(hc.mu b).2 (.inl hb),fun k _ e=>?_⟩⟩;rcases(hc.new k b e).1 with h1|h1
  ·exact h1
  ·have:=(hc.fresh b hb).1;omega
 rcases hx with rfl|rfl
 ·exact⟨hc.defers,v,ct,v,rfl,hle _ _ _ zM,hc.ext.ext⟩
 ·exact⟨hc.defers,v,ct,v,rfl,hle _ _ _ zM,hc.ext.ext⟩
theorem B2 {P:Program}{f:Nat}{fn:Func}{c:Code}{T:Nat→Option TI}{Q:Nat→Option Nat}(cq:TabOK P T Q)(hf:P.funcs[f]? =some fn)(hb:fn.body=some c)(hn:xB P f){args:List PV}{h0 h1:List Chunk}{r:PV}(hl:args.length≤fn.ntmps)
 (hle:h0.length≤h1.length) (A5:an h0.length args=true) (hbh:aH h0.length h0=true) (hp:tz P fn.ntmps h0.length c (xI P h0.length T fn.results.toList r h1) (pT args 0) h0):MSpec P f args h0 r h1:=by
 refine⟨hn,hle,A5,hbh,fun X hXP hXn qq w cx vs hc zL=>?_⟩;subst hXP;have P9:vs.length=args.length:=zL.1.symm;have mL:kk {X with n:=fn.ntmps} (bQ (pT args 0) h0) {tmps:=vs.toArray++Y5 (fn.ntmps - vs.toArray.size) undef,defers:=[]} w:=
  ⟨cx,by simp;omega,rfl,hc.ext,hc.inv,hc.fresh,hc.mu,hc.new,hc.apart,fun t=>B0 zL t,hc.chunk,hc.lent⟩
 refine calls_of_wp hf hb (wp_mono (hp {X with n:=fn.ntmps} rfl rfl qq _ _ mL) fun ex a w' hq=>?_);obtain⟨e,h,⟨hx,ps,gh,Tz⟩,hr⟩:=hq;obtain⟨c2,wX⟩:=hr;obtain⟨v,ct,bA⟩:=F7 (X:={X with n:=fn.ntmps}) cq wX gh;have hr3:kk {X with n:=1} (bQ [(0,xH ps)] h) {tmps:=#[v],defers:=[]} w':=by
  refine⟨c2,rfl,rfl,wX.ext,wX.inv,wX.fresh,wX.mu,wX.new,wX.apart,fun t=>?_,wX.chunk,wX.lent⟩;simp only[bQ,ft];by_cases ht:t=0
  ·subst ht;rw[if_pos rfl];exact bA
  ·rw[if_neg ht];exact .any _
 obtain⟨c3,Py⟩:=Tz {X with n:=1} rfl rfl qq _ _ hr3;have Sr:RepP c3 w' r v:=Py.env 0;have rT:RealC X (bQ [] h1) JX w' c3:=⟨hXn.symm,rfl,Py.ext,Py.inv,Py.fresh,Py.mu,Py.new,Py.apart,fun t=> .any _,Py.chunk,Py.lent⟩;rcases hx with rfl|rfl
 ·exact⟨wX.defers,v,ct,v,c3,rfl,Sr,rT⟩
 ·exact⟨wX.defers,v,ct,v,c3,rfl,Sr,rT⟩
def B3 (W:World)(R:Value→Prop)(e:Ending)(w':World):Prop:=(∃u,e= .returned u∧R u)∧dA W w'
def Sj (P:Program)(W w:World)(R:Value→Prop):Result Next→Prop
 | .ok (.value u) w'=>w'=w∧R u
 | .ok .skip w'=>w'=w∧R undef
 | .ok (.enter f args) w'=>w'=w∧Calls P f args w (B3 W R)
 |_=>False
attribute [go_sem] Sj
section
variable {P:Program}{ops:Array Oper}{W:World}{Q:Act→Prop}{o:Oper}{rest:List Oper}{a:Act}
theorem sq {w:World}{v:Value}{r:Result Next}(h:∀R:Value→Prop,R v→Sj P W w R r):Oper.quietUpon P (dA W) w v r:=by
 have h1:=h (·=v) rfl;unfold Sj at h1;unfold Oper.quietUpon;split at h1
 ·exact h1
 ·exact⟨h1.1,h1.2.symm⟩
 ·refine⟨h1.1,h1.2.mono ?_⟩;rintro e w' ⟨⟨u,rfl,rfl⟩,hw⟩;exact⟨rfl,hw⟩
 ·exact h1.elim
theorem dY {v:Value}(hw:Region.wanted o (yielded ops a.tmps)=true)(h:∀w,dA W w→∀R:Value→Prop,R v→Sj P W w R ((execOp a.eval o).run P w))
 (hn:wpQuiet P ops (dA W) Q rest (a.put o.dst v)):wpQuiet P ops (dA W) Q (o::rest) a:=by
 unfold wpQuiet;rw[if_pos hw];exact⟨v,fun w hC=>sq (h w hC),hn⟩
theorem pW (hw:Region.wanted o (yielded ops a.tmps)=false)(hn:wpQuiet P ops (dA W) Q rest (a.put o.dst undef)):wpQuiet P ops (dA W) Q (o::rest) a:=by
 unfold wpQuiet;rw[if_neg (by rw[hw];simp)];exact hn
section
variable {j d:Nat}{v:Value}{W:World}{Q:Act→Prop}
theorem gx {b:Bool}(hd:(ops[j]?).bind (·.dst)=some d)(hv:a.tmps.toList[d]? =some v)(hb:v= .bool b):yielded ops a.tmps j=some b:=by
 subst hb;rw[X6]at hv;simp[yielded,hd,hv]
theorem mT (hd:(ops[j]?).bind (·.dst)=some d)(hv:a.tmps.toList[d]? =some v)(hb:v=undef):yielded ops a.tmps j=none:=by
 subst hb;rw[X6]at hv;simp[yielded,hd,hv,undef]
theorem j9 (hg:o.guard=some (j,true))(hd:(ops[j]?).bind (·.dst)=some d)(hv:a.tmps.toList[d]? =some v)(hb:v= .bool false)(hn:wpQuiet P ops (dA W) Q rest (a.put o.dst undef)):wpQuiet P ops (dA W) Q (o::rest) a:=
 pW (by simp[Region.wanted,hg,gx hd hv hb]) hn
theorem ke (hg:o.guard=some (j,false))(hd:(ops[j]?).bind (·.dst)=some d)(hv:a.tmps.toList[d]? =some v)(hb:v= .bool true)(hn:wpQuiet P ops (dA W) Q rest (a.put o.dst undef)):wpQuiet P ops (dA W) Q (o::rest) a:=
 pW (by simp[Region.wanted,hg,gx hd hv hb]) hn
theorem kf {b:Bool}(hg:o.guard=some (j,b))(hd:(ops[j]?).bind (·.dst)=some d)(hv:a.tmps.toList[d]? =some v)(hb:v=undef)(hn:wpQuiet P ops (dA W) Q rest (a.put o.dst undef)):wpQuiet P ops (dA W) Q (o::rest) a:=
 pW (by simp[Region.wanted,hg,mT hd hv hb]) hn
theorem bx (hg:o.guard=none):Region.wanted o (yielded ops a.tmps)=true:=by simp[Region.wanted,hg]
theorem bD {b:Bool}(hg:o.guard=some (j,b))(hd:(ops[j]?).bind (·.dst)=some d)(hv:a.tmps.toList[d]? =some v)(hb:v= .bool b):Region.wanted o (yielded ops a.tmps)=true:=by
 simp[Region.wanted,hg,gx hd hv hb]
end
theorem jO {f:FuncId}{args:Array Value}{w:World}{R:Value→Prop}{v:Value}(hw:dA W w)(h:Calls P f args w fun e w'=>e= .returned v∧dA w w')(hR:R v):Calls P f args w (B3 W R):=
 h.mono fun _ _ ⟨he,hx⟩=>⟨⟨v,he,hR⟩,hw.trans (hx.mono hw.size)⟩
theorem pX {f:FuncId}{args:Array Value}{w:World}{R:Value→Prop}{v:Value}(hw:dA W w)(h:Calls P f args w fun e w'=>e= .returned v∧w=w')(hR:R v):Calls P f args w (B3 W R):=
 h.mono fun _ _ ⟨he,hx⟩=>⟨⟨v,he,hR⟩,hx ▸ hw⟩
theorem dZ {id:Nat}{Q:Exit→Act→World→Prop}{w:World}{l:List Oper}(hm:P.follows .mixedOrders=true)(hB:Region.lexB .any l.toArray=true)
 (h:wpQuiet P l.toArray (dA w) (fun a'=>∀w',dA w w'→Q .normal a' w') l a):(Code.region id l.toArray true).wp P Q a w:=
 wp_region_quiet (C:=dA w) hm hB (Below.refl _ _).drew (by simpa using h)
end
section
variable {P:Program}{ops:Array Oper}{w:World}{Q:Exit→Act→World→Prop}{a:Act}{n:Nat}{listed:Array Bool}
end
theorem cf {k:IntKind}{a b:Int}(h:a=b):Ending.returned (.int k a)= .returned (.int k b):=by rw[h]
theorem dn {a b:Bool}(h:a=b):Ending.returned (.bool a)= .returned (.bool b):=by rw[h]
section
open Go.Proofs
theorem kH (a:Nat)(ha:a < 9223372036854775808):(BitVec.ofInt 64 (a:Int)).toNat=a:=by
 rw[BitVec.ofInt_natCast,BitVec.toNat_ofNat];exact Nat.mod_eq_of_lt (by omega)
theorem B4 (a b:Nat)(ha:a < 9223372036854775808)(hb:b < 9223372036854775808):bits .and .i64 (a:Int) (b:Int)=((a&&& b:Nat):Int):=by
 have hx:a&&& b < 2 ^ 63:=Nat.and_lt_two_pow _ (by omega);show IntKind.i64.wrap ((BitVec.ofInt 64 (a:Int)&&& BitVec.ofInt 64 (b:Int)).toNat:Int)=_;rw[BitVec.toNat_and,kH a ha,kH b hb,IntKind.wrap_i64];omega
end
def xJ:Nat→Option TI
 |3=>some {agg:=false,size:=1,bytes:=8,zero:=[.int .i64 0],fields:=[],elem:=none,int:=some .i64,kind:=0,mp:=none}
 |4=>some {agg:=false,size:=1,bytes:=1,zero:=[.bool false],fields:=[],elem:=none,int:=none,kind:=1,mp:=none}
 |37=>some {agg:=false,size:=1,bytes:=8,zero:=[.int .i64 0],fields:=[],elem:=none,int:=some .i64,kind:=0,mp:=none}
 |32=>some {agg:=true,size:=2,bytes:=16,zero:=[.int .i64 0,.int .i64 0],fields:=[(0,1),(1,1)],elem:=none,int:=none,kind:=0,mp:=none}
 |151=>some {agg:=true,size:=3,bytes:=40,zero:=[.int .i64 0,.int .i64 0,.slice none 0 0],fields:=[(0,2),(2,1)],elem:=none,int:=none,kind:=0,mp:=none}
 |34=>some {agg:=true,size:=4,bytes:=32,zero:=[.int .i64 0,.int .i64 0,.int .i64 0,.int .i64 0],fields:=[(0,1),(1,1),(2,1),(3,1)],elem:=none,int:=none,kind:=0,mp:=none}
 |68=>some {agg:=true,size:=5,bytes:=40,zero:=[.int .i64 0,.int .i64 0,.int .i64 0,.int .i64 0,.int .i64 0],fields:=[(0,2),(2,1),(3,1),(4,1)],elem:=none,int:=none,kind:=0,mp:=none}
 |62=>some {agg:=true,size:=9,bytes:=88,zero:=[.int .i64 0,.int .i64 0,.int .i64 0,.int .i64 0,.int .i64 0,.int .i64 0,.int .i64 0,.int .i64 0,.slice none 0 0],fields:=[(0,1),(1,1),(2,2),(4,4),(8,1)],elem:=none,int:=none,kind:=0,mp:=none}
 |24=>some {agg:=true,size:=2,bytes:=32,zero:=[.int .i64 0,.slice none 0 0],fields:=[(0,1),(1,1)],elem:=none,int:=none,kind:=0,mp:=none}
 |74=>some {agg:=true,size:=2,bytes:=32,zero:=[.int .i64 0,.slice none 0 0],fields:=[(0,1),(1,1)],elem:=none,int:=none,kind:=0,mp:=none}
 |71=>some {agg:=true,size:=4,bytes:=48,zero:=[.int .i64 0,.int .i64 0,.int .i64 0,.slice none 0 0],fields:=[(0,1),(1,2),(3,1)],elem:=none,int:=none,kind:=0,mp:=none}
 |58=>some {agg:=true,size:=3,bytes:=24,zero:=[.int .i64 0,.int .i64 0,.int .i64 0],fields:=[(0,2),(2,1)],elem:=none,int:=none,kind:=0,mp:=none}
 |55=>some {agg:=true,size:=3,bytes:=56,zero:=[.int .i64 0,.slice none 0 0,.slice none 0 0],fields:=[(0,1),(1,1),(2,1)],elem:=none,int:=none,kind:=0,mp:=none}
 |76=>some {agg:=true,size:=2,bytes:=16,zero:=[.int .i64 0,.int .i64 0],fields:=[(0,1),(1,1)],elem:=none,int:=none,kind:=0,mp:=none}
 |28=>some {agg:=true,size:=2,bytes:=48,zero:=[.slice none 0 0,.slice none 0 0],fields:=[(0,1),(1,1)],elem:=none,int:=none,kind:=0,mp:=none}
 |30=>some {agg:=true,size:=4,bytes:=80,zero:=[.int .i64 0,.slice none 0 0,.slice none 0 0,.slice none 0 0],fields:=[(0,2),(2,2)],elem:=none,int:=none,kind:=0,mp:=none}
 |36=>some {agg:=true,size:=10,bytes:=80,zero:=[.int .i64 0,.int .i64 0,.int .i64 0,.int .i64 0,.int .i64 0,.int .i64 0,.int .i64 0,.int .i64 0,.int .i64 0,.int .i64 0],fields:=[(0,1),(1,1),(2,1),(3,1),(4,2),(6,4)],elem:=none,int:=none,kind:=0,mp:=none}
 |39=>some {agg:=true,size:=4,bytes:=32,zero:=[.int .i64 0,.int .i64 0,.int .i64 0,.int .i64 0],fields:=[(0,1),(1,2),(3,1)],elem:=none,int:=none,kind:=0,mp:=none}
 |72=>some {agg:=false,size:=1,bytes:=24,zero:=[.slice none 0 0],fields:=[],elem:=some 3,int:=none,kind:=0,mp:=none}
 |232=>some {agg:=false,size:=1,bytes:=24,zero:=[.slice none 0 0],fields:=[],elem:=some 4,int:=none,kind:=0,mp:=none}
 |149=>some {agg:=false,size:=1,bytes:=24,zero:=[.slice none 0 0],fields:=[],elem:=some 32,int:=none,kind:=0,mp:=none}
 |60=>some {agg:=false,size:=1,bytes:=24,zero:=[.slice none 0 0],fields:=[],elem:=some 68,int:=none,kind:=0,mp:=none}
 |22=>some {agg:=false,size:=1,bytes:=24,zero:=[.slice none 0 0],fields:=[],elem:=some 62,int:=none,kind:=0,mp:=none}
 |69=>some {agg:=false,size:=1,bytes:=24,zero:=[.slice none 0 0],fields:=[],elem:=some 74,int:=none,kind:=0,mp:=none}
 |53=>some {agg:=false,size:=1,bytes:=24,zero:=[.slice none 0 0],fields:=[],elem:=some 71,int:=none,kind:=0,mp:=none}
 |52=>some {agg:=false,size:=1,bytes:=24,zero:=[.slice none 0 0],fields:=[],elem:=some 58,int:=none,kind:=0,mp:=none}
 |25=>some {agg:=false,size:=1,bytes:=24,zero:=[.slice none 0 0],fields:=[],elem:=some 55,int:=none,kind:=0,mp:=none}
 |26=>some {agg:=false,size:=1,bytes:=24,zero:=[.slice none 0 0],fields:=[],elem:=some 76,int:=none,kind:=0,mp:=none}
 |46=>some {agg:=false,size:=1,bytes:=24,zero:=[.slice none 0 0],fields:=[],elem:=some 36,int:=none,kind:=0,mp:=none}
 |47=>some {agg:=false,size:=1,bytes:=24,zero:=[.slice none 0 0],fields:=[],elem:=some 39,int:=none,kind:=0,mp:=none}
 |95=>some {agg:=true,size:=3,bytes:=24,zero:=[.int .i64 0,.int .i64 0,.int .i64 0],fields:=[(0,2),(2,1)],elem:=none,int:=none,kind:=0,mp:=none}
 |86=>some {agg:=true,size:=18,bytes:=192,zero:=[.int .i64 0,.slice none 0 0,.slice none 0 0,.slice none 0 0,.int .i64 0,.int .i64 0,.int .i64 0,.int .i64 0,.int .i64 0,.int .i64 0,.int .i64 0,.int .i64 0,.int .i64 0,.int .i64 0,.int .i64 0,.int .i64 0,.int .i64 0,.int .i64 0],fields:=[(0,4),(4,10),(14,4)],elem:=none,int:=none,kind:=0,mp:=none}
 |5=>some {agg:=false,size:=1,bytes:=1,zero:=[.int .u8 0],fields:=[],elem:=none,int:=some .u8,kind:=0,mp:=none}
 |9=>some {agg:=false,size:=1,bytes:=16,zero:=[.string ByteArray.empty],fields:=[],elem:=none,int:=none,kind:=2,mp:=none}
 |21=>some {agg:=false,size:=1,bytes:=4,zero:=[.int .i32 0],fields:=[],elem:=none,int:=some .i32,kind:=0,mp:=none}
 |83=>some {agg:=false,size:=1,bytes:=8,zero:=[.pointer none],fields:=[],elem:=none,int:=none,kind:=3,mp:=none}
 |104=>some {agg:=false,size:=1,bytes:=8,zero:=[.pointer none],fields:=[],elem:=none,int:=none,kind:=3,mp:=none}
 |107=>some {agg:=false,size:=1,bytes:=8,zero:=[.pointer none],fields:=[],elem:=none,int:=none,kind:=3,mp:=none}
 |117=>some {agg:=false,size:=1,bytes:=8,zero:=[.pointer none],fields:=[],elem:=none,int:=none,kind:=3,mp:=none}
 |147=>some {agg:=false,size:=1,bytes:=8,zero:=[.pointer none],fields:=[],elem:=none,int:=none,kind:=3,mp:=none}
 |210=>some {agg:=false,size:=1,bytes:=8,zero:=[.pointer none],fields:=[],elem:=none,int:=none,kind:=3,mp:=none}
 |214=>some {agg:=false,size:=1,bytes:=8,zero:=[.pointer none],fields:=[],elem:=none,int:=none,kind:=3,mp:=none}
 |234=>some {agg:=false,size:=1,bytes:=8,zero:=[.int .u64 0],fields:=[],elem:=none,int:=some .u64,kind:=0,mp:=none}
 |281=>some {agg:=false,size:=1,bytes:=4,zero:=[.int .u32 0],fields:=[],elem:=none,int:=some .u32,kind:=0,mp:=none}
 |283=>some {agg:=false,size:=1,bytes:=8,zero:=[.int .u64 0],fields:=[],elem:=none,int:=some .u64,kind:=0,mp:=none}
 |108=>some {agg:=false,size:=1,bytes:=8,zero:=[.map none],fields:=[],elem:=none,int:=none,kind:=4,mp:=some (1,false)}
 |109=>some {agg:=false,size:=1,bytes:=8,zero:=[.map none],fields:=[],elem:=none,int:=none,kind:=4,mp:=some (1,false)}
 |92=>some {agg:=false,size:=1,bytes:=8,zero:=[.map none],fields:=[],elem:=none,int:=none,kind:=4,mp:=some (3,true)}
 |_=>none
theorem NZ:∀t ti,xJ t=some ti→aU prog t=some ti:=by
 intro t ti h;unfold xJ at h;split at h<;>first|(cases h;kernel_rfl)|cases h
theorem HH:Bp prog 32 2:=by
 intro w xs ys x y op hx hy lR;match xs,ys,hx,hy with
 |[a0,a1],[b0,b1],_,_=>
  clear hx hy;rcases lR with rfl|rfl<;>(simp only[Xm,Xv];go_simp)<;>by_cases h0:a0=b0<;>by_cases h1:a1=b1<;>simp[bne,h0,h1]
theorem N0:Bp prog 34 4:=by
 intro w xs ys x y op hx hy lR;match xs,ys,hx,hy with
 |[a0,a1,a2,a3],[b0,b1,b2,b3],_,_=>
  clear hx hy;rcases lR with rfl|rfl<;>(simp only[Xm,Xv];go_simp)<;>by_cases h0:a0=b0<;>by_cases h1:a1=b1<;>by_cases h2:a2=b2<;>by_cases h3:a3=b3<;>simp[bne,h0,h1,h2,h3]
theorem Kg:Bp prog 68 5:=by
 intro w xs ys x y op hx hy lR;match xs,ys,hx,hy with
 |[a0,a1,a2,a3,a4],[b0,b1,b2,b3,b4],_,_=>
  clear hx hy;rcases lR with rfl|rfl<;>(simp only[Xm,Xv];go_simp)<;>by_cases h0:a0=b0<;>by_cases h1:a1=b1<;>by_cases h2:a2=b2<;>by_cases h3:a3=b3<;>by_cases h4:a4=b4<;>simp[bne,h0,h1,h2,h3,h4]
theorem Kh:Bp prog 58 3:=by
 intro w xs ys x y op hx hy lR;match xs,ys,hx,hy with
 |[a0,a1,a2],[b0,b1,b2],_,_=>
  clear hx hy;rcases lR with rfl|rfl<;>(simp only[Xm,Xv];go_simp)<;>by_cases h0:a0=b0<;>by_cases h1:a1=b1<;>by_cases h2:a2=b2<;>simp[bne,h0,h1,h2]
theorem N1:Bp prog 76 2:=by
 intro w xs ys x y op hx hy lR;match xs,ys,hx,hy with
 |[a0,a1],[b0,b1],_,_=>
  clear hx hy;rcases lR with rfl|rfl<;>(simp only[Xm,Xv];go_simp)<;>by_cases h0:a0=b0<;>by_cases h1:a1=b1<;>simp[bne,h0,h1]
theorem HI:Bp prog 39 4:=by
 intro w xs ys x y op hx hy lR;match xs,ys,hx,hy with
 |[a0,a1,a2,a3],[b0,b1,b2,b3],_,_=>
  clear hx hy;rcases lR with rfl|rfl<;>(simp only[Xm,Xv];go_simp)<;>by_cases h0:a0=b0<;>by_cases h1:a1=b1<;>by_cases h2:a2=b2<;>by_cases h3:a3=b3<;>simp[bne,h0,h1,h2,h3]
def Ki:Nat→Option Nat
 |32=>some 2
 |34=>some 4
 |68=>some 5
 |58=>some 3
 |76=>some 2
 |39=>some 4
 |_=>none
theorem N2:MapOK prog 108 1 false:=yD underlying108 underlying3 (by kernel_rfl)
theorem N3:MapOK prog 109 1 false:=yD underlying109 underlying3 (by kernel_rfl)
theorem QB:KeyOK prog 95 3 true:=by
 refine JT (by kernel_rfl) (fun em w xs hx=>?_) (fun w xs ys hx hy=>?_)
 ·match xs,hx with
  |[a0,a1,a2],_=>
   clear hx;simp only[jd,if_true,Xm,Xv];have key:∀n,(Instr.checkKey em (n+1+1+1) 95 (.agg #[.int .i64 a0,.int .i64 a1,.int .i64 a2])).run prog w= .ok () w:=by
    intro n;simp[Instr.checkKey,run_underlying underlying3,run_underlying underlying32,run_underlying underlying95,part,isAgg,go_sem]
   exact key 9997
 ·match xs,ys,hx,hy with
  |[a0,a1,a2],[b0,b1,b2],_,_=>
   clear hx hy;simp only[jd,if_true,Xm,Xv];show (Op.equalIn 10000 95 _ _).run _ _=_;go_simp
   by_cases h0:a0=b0<;>by_cases h1:a1=b1<;>by_cases h2:a2=b2<;>simp[h0,h1,h2]
theorem QC:MapOK prog 92 3 true:=by
 obtain⟨i,hi,hz⟩:=XO.1 (show (prog.info? 3).map (·.zero)=some (some (.int .i64 0)) by kernel_rfl);exact⟨95,3,i,underlying92,hi,hz,QB⟩
theorem N4:∀t ti n s,xJ t=some ti→ti.mp=some (n,s)→MapOK prog t n s:=by
 intro t ti n s h hm;unfold xJ at h;split at h
 ·cases h;cases hm
 ·cases h;cases hm
 ·cases h;cases hm
 ·cases h;cases hm
 ·cases h;cases hm
 ·cases h;cases hm
 ·cases h;cases hm
 ·cases h;cases hm
 ·cases h;cases hm
 ·cases h;cases hm
 ·cases h;cases hm
 ·cases h;cases hm
 ·cases h;cases hm
 ·cases h;cases hm
 ·cases h;cases hm
 ·cases h;cases hm
 ·cases h;cases hm
 ·cases h;cases hm
 ·cases h;cases hm
 ·cases h;cases hm
 ·cases h;cases hm
 ·cases h;cases hm
 ·cases h;cases hm
 ·cases h;cases hm
 ·cases h;cases hm
 ·cases h;cases hm
 ·cases h;cases hm
 ·cases h;cases hm
 ·cases h;cases hm
 ·cases h;cases hm
 ·cases h;cases hm
 ·cases h;cases hm
 ·cases h;cases hm
 ·cases h;cases hm
 ·cases h;cases hm
 ·cases h;cases hm
 ·cases h;cases hm
 ·cases h;cases hm
 ·cases h;cases hm
 ·cases h;cases hm
 ·cases h;cases hm
 ·cases h;cases hm
 ·cases h;cases hm
 ·cases h;cases hm
 ·cases h;cases hm
 ·cases h;cases hm;exact N2
 ·cases h;cases hm;exact N3
 ·cases h;cases hm;exact QC
 ·cases h
theorem ae:TabOK prog xJ Ki:=by
 refine⟨NZ,fun t n h=>?_,N4⟩;unfold Ki at h;split at h
 ·cases h;exact HH
 ·cases h;exact N0
 ·cases h;exact Kg
 ·cases h;exact Kh
 ·cases h;exact N1
 ·cases h;exact HI
 ·cases h
theorem cZ {P:Program}{f:Nat}{fn:Func}{c:Code}(hf:P.funcs[f]? =some fn)(TA:(fn.name== "runtime.NumGoroutine")=false)(hb:fn.body=some c):xB P f:=by
 intro args w;simp[callFunc,hf,hb];simpa using TA
theorem SG:(some true==some true)=true:=rfl
theorem SH:(some false==some false)=true:=rfl
theorem SI:(some true==some false)=false:=rfl
theorem SJ:(some false==some true)=false:=rfl
theorem SK:((none:Option Bool)==some true)=false:=rfl
theorem SL:((none:Option Bool)==some false)=false:=rfl
section
variable {P:Program}{n m:Nat}{T:Nat→Option TI}{Q:Nat→Option Nat}{K:Exit→cw→List Chunk→Prop}{e:cw}{h:List Chunk}
def vq (C:cw→List Chunk→Prop)(K:Exit→cw→List Chunk→Prop):Exit→cw→List Chunk→Prop
 | .normal,e,h=>C e h
 |x,e,h=>K x e h
theorem F8 {a b:Code}(hp:∀C:cw→List Chunk→Prop,(∀e h,tz P n m b K e h→C e h)→tz P n m a (vq C K) e h):tz P n m (.seq a b) K e h:=by
 intro X hX hn qq ac w hr;have:=hp (fun e h=>tz P n m b K e h) (fun _ _ h=>h) X hX hn qq ac w hr;refine wp_seq (wp_mono this fun ex a' w' hq=>?_);obtain⟨e',h',hk,hr'⟩:=hq;cases ex with
 |normal=>exact hk X hX hn qq a' w' hr'
 |_=>exact⟨e',h',hk,hr'⟩
def xK (id:Nat)(C:cw→List Chunk→Prop)(K:Exit→cw→List Chunk→Prop):Exit→cw→List Chunk→Prop
 | .normal,e,h=>C e h
 | .exit i,e,h=>if i=id then C e h else K (.exit i) e h
 |x,e,h=>K x e h
theorem HJ {id:Nat}{c:Code}(hp:∀C:cw→List Chunk→Prop,(∀e h,K .normal e h→C e h)→tz P n m c (xK id C K) e h):tz P n m (.block id c) K e h:=by
 intro X hX hn qq ac w hr;have:=hp (fun e h=>K .normal e h) (fun _ _ h=>h) X hX hn qq ac w hr;refine wp_block (wp_mono this fun ex a' w' hq=>?_);obtain⟨e',h',hk,hr'⟩:=hq;cases ex with
 |exit i=>
  simp only[Exit.inBlock,xK]at*;by_cases hi:i=id
  ·rw[if_pos hi]at hk ⊢;exact⟨e',h',hk,hr'⟩
  ·rw[if_neg hi]at hk ⊢;exact⟨e',h',hk,hr'⟩
 |_=>exact⟨e',h',hk,hr'⟩
def QD (P:Program)(g:Option Bool)(r:SR)(dst:Option Nat)(e:cw)(h:List Chunk)(sm:List (List Nat × List Nat))(R:cw→List Chunk→List (List Nat × List Nat)→Prop):Prop:=
 match g with
 |some true=>Ak P r dst e h sm R
 |some false=>R (gw e dst (.d (.v undef))) h (([],[])::sm)
 |none=>False
section
variable {sm:List (List Nat × List Nat)}{dst:Option Nat}{R:cw→List Chunk→List (List Nat × List Nat)→Prop}
theorem QE {g:Nat}{ps:List PV}{ds:List D}{r:D}(hv:SF (aG h) ps=some ds)(hp:af P g ds r)(hf:QA (aG h) ps=[]∨r.flat=true)(hR:R (gw e dst (.d r)) h (([],QA (aG h) ps)::sm)):Ak P (.call g ps) dst e h sm R:=
 .inl ⟨ds,r,hv,hp,hf,hR⟩
theorem QF (ls:List Nat){g:Nat}{ps args:List PV}{h0 h1:List Chunk}{r:PV}(hM:MSpec P g args h0 r h1)(ly:ps=iR (eF ls h.length) args)(hl:ls.length=h0.length)(lm:ls.Nodup)(hlt:∀k∈ls,k < h.length)(i9:ax (aG h) (eF ls h.length) 0 h0)
 (hR:R (gw e dst (ren (eF ls h.length) r)) (iC (eF ls h.length) 0 h1 h) ((pS ls h.length h1.length,pS ls h.length h1.length)::sm)):Ak P (.call g ps) dst e h sm R:=
 .inr (.inl ⟨ls,args,h0,r,h1,hM,ly,hl,lm,hlt,i9,hR⟩)
end
theorem HK {draw:Bool}{ops:Array Oper}{ds:List (Option Nat)}{o:Oper}{l:List Oper}{sm:List (List Nat × List Nat)}{K:cw→List Chunk→Prop}(hd:Kf n o=true)
 (hp:∀R:cw→List Chunk→List (List Nat × List Nat)→Prop,(∀e h sm,ud P n T Q draw ops ds l e h sm K→R e h sm)→QD P (so ds e o) (Nl T Q e h o) o.dst e h sm R):ud P n T Q draw ops ds (o::l) e h sm K:=by
 have hp:=hp (ud P n T Q draw ops ds l · · · K) fun _ _ _ h=>h;unfold ud;unfold QD at hp;split at hp
 ·rename_i g hg;rw[hg];exact⟨hd,fun _=>hp,fun h=>by cases h⟩
 ·rename_i g hg;rw[hg];exact⟨hd,(fun h=>(by cases h)),fun _=>hp⟩
 ·exact hp.elim
theorem Kj {c:Operand}{a b:Code}{t:Bool}(hc:dK e c= .d (.v (.bool t)))(h1:t=true→tz P n m a K e h)(h2:t=false→tz P n m b K e h):tz P n m (.cond c a b) K e h:=by
 intro X hX hn qq ac w hr;have hv:ac.eval c= .bool t:=by
  obtain⟨cx,jL⟩:=hr;exact df jL ((aD e h c).trans hc)
 refine wp_cond hv ?_;cases t with
 |true=>exact h1 rfl X hX hn qq ac w hr
 |false=>exact h2 rfl X hX hn qq ac w hr
theorem Kk (h1:K .normal e h):tz P n m .skip K e h:=fun X _ _ _ a w hr=>wp_skip ⟨e,h,h1,hr⟩
theorem Kl {id:Nat}(h1:K (.exit id) e h):tz P n m (.exit id) K e h:=fun X _ _ _ a w hr=>wp_exit ⟨e,h,h1,hr⟩
theorem N5 (h1:K .ret e h):tz P n m .ret K e h:=fun X _ _ _ a w hr=>wp_ret ⟨e,h,h1,hr⟩
theorem HL {l:Nat}(h1:K .normal e h):tz P n m (.label l) K e h:=fun X _ _ _ a w hr=>wp_label ⟨e,h,h1,hr⟩
theorem B5 {c:Code}(I:Nat→cw→List Chunk→Prop)(mm:Nat)(e1:cw)(h1:List Chunk)(h0:I mm e1 h1)(hw:eA P n m e h e1 h1)
 (hr:∀k e h,I k e h→∀C:cw→List Chunk→Prop,(∀k' e1 h1 e h,k' < k→I k' e1 h1→eA P n m e h e1 h1→C e h)→tz P n m c (vq C K) e h):tz P n m (.loop c) K e h:=by
 intro X hX hn qq a w mL;refine wp_loop_ghost (fun k a w=>∃e h,I k e h∧kk X (bQ e h) a w) mm ⟨e1,h1,h0,hw X hX hn qq a w mL⟩ ?_;rintro k a w ⟨e,h,hI,mL⟩;have:=hr k e h hI (fun e' h'=>∃k' e1 h1,k' < k∧I k' e1 h1∧eA P n m e' h' e1 h1) (fun k' e1 h1 e h a b c=>⟨k',e1,h1,a,b,c⟩) X hX hn qq a w mL;refine wp_mono this fun ex a' w' hq=>?_;obtain⟨e',h',hk,hr'⟩:=hq;cases ex with
 |normal=>
  obtain⟨k',e2,h2,hlt,lU,cD⟩:=hk;exact⟨k',hlt,e2,h2,lU,cD X hX hn qq a' w' hr'⟩
 |_=>exact⟨e',h',hk,hr'⟩
end
theorem sr {P:Program}{n m:Nat}{e e':cw}{h:List Chunk}(hl:∀t,ft e' t= .any∨ft e' t=ft e t):eA P n m e h e' h:=by
 intro X _ _ _ a w hr;obtain⟨c,hc⟩:=hr;refine⟨c,hc.size,hc.defers,hc.ext,hc.inv,hc.fresh,hc.mu,hc.new,hc.apart,fun t=>?_,hc.chunk,hc.lent⟩;show RepP c w (ft e' t) _;rcases hl t with h|h
 ·rw[h];exact .any _
 ·rw[h];exact hc.env t
theorem ak:prog.follows .mixedOrders=true:=by kernel_rfl
theorem eA.refl (P:Program)(n m:Nat)(e:cw)(h:List Chunk):eA P n m e h e h:=fun _ _ _ _ _ _ h=>h
theorem gM (l:List (List D))(i:Nat):(ab l)[i]? =(l[i]?).map (·.map .d):=by simp[ab]
theorem aF (l:List (List D)):(ab l).length=l.length:=by simp[ab]
theorem aI (a b:List (List D)):ab a++ab b=ab (a++b):=by simp[ab]
theorem oV {h:List Chunk}{k:Nat}(hk:aG h k≠ .none):k < h.length:=by
 induction h generalizing k with
 |nil=>simp[aG]at hk
 |cons c l ih=>
  cases k with
  |zero=>simp
  |succ k=>simpa using ih (by simpa[aG]using hk)
def Cx.cut (c:Cx)(n:Nat):Cx:={M:=c.M,bl:=fun k=>if k < n then c.bl k else none,ov:=fun k g=>if k < n then c.ov k g else none}
theorem RepP.cut {c:Cx}{w:World}{n:Nat}{p:PV}{v:Value}(h:RepP c w p v):aq n p=true→RepP (c.cut n) w p v:=by
 induction h with
 |d x v h=>intro _;exact .d x v h
 |any v=>intro _;exact .any v
 |ptr k off b h=>intro hb;simp only[aq,decide_eq_true_eq]at hb;exact .ptr k off b (by show (if k < n then c.bl k else none)=_;rw[if_pos hb];exact h)
 |own k g v h h1=>intro hb;simp only[aq,decide_eq_true_eq]at hb;exact .own k g v (by show (if k < n then c.ov k g else none)=_;rw[if_pos hb];exact h) h1
 |rp k g sz i j b m cap h=>intro hb;simp only[aq,decide_eq_true_eq]at hb;exact .rp k g sz i j b m cap (by show (if k < n then c.ov k g else none)=_;rw[if_pos hb];exact h)
 |osl k g sz a m b o N cap h hn hc h2=>intro hb;simp only[aq,decide_eq_true_eq]at hb;exact .osl k g sz a m b o N cap (by show (if k < n then c.ov k g else none)=_;rw[if_pos hb];exact h) hn hc h2
 |mref k b h=>intro hb;simp only[aq,decide_eq_true_eq]at hb;exact .mref k b (by show (if k < n then c.bl k else none)=_;rw[if_pos hb];exact h)
 |agg caps vs hl h1 bA ih=>
  intro hb;simp only[aq]at hb;exact .agg caps vs hl h1 fun j d x hj hx=>ih j d x hj hx (js hb d (Xl hj))
 |tup caps vs hl bA ih=>
  intro hb;simp only[aq]at hb;exact .tup caps vs hl fun j d x hj hx=>ih j d x hj hx (js hb d (Xl hj))
 |clo g caps vs hl bA ih=>
  intro hb;simp only[aq]at hb;exact .clo g caps vs hl fun j d x hj hx=>ih j d x hj hx (js hb d (Xl hj))
theorem B6:∀{e e':cw},Ht e e'→∀t,ft e' t= .any∨ft e' t=ft e t
 |_,[],_,_=> .inl rfl
 |e,(t',p)::l,⟨h1,h2⟩,t=>by
  simp only[ft];by_cases ht:t=t'
  ·rw[if_pos ht,ht];exact .inr h1.symm
  ·rw[if_neg ht];exact B6 h2 t
theorem oW:∀(h x:List Chunk) (k:Nat),k < h.length→aG (h++x) k=aG h k
 |c::l,x,0,_=>rfl
 |c::l,x,k+1,hk=>by simpa[aG]using oW l x k (by simpa using hk)
theorem mU:∀(h:List Chunk) (k:Nat),h.length≤k→aG h k= .none
 |[],_,_=>rfl
 |c::l,0,h=>by simp at h
 |c::l,k+1,h=>by simpa[aG]using mU l k (by simpa using h)
theorem ee {P:Program}{n m:Nat}{e e':cw}{h h':List Chunk}(x:List Chunk)(hm:m≤h'.length)(hh:h=h'++x)(he:Ht e e')(hb:ek h'.length e'=true)(hbh:aH h'.length h'=true):eA P n m e h e' h':=by
 intro X _ _ qq a w hr;obtain⟨c,hc⟩:=hr;subst hh;have hf:=hc.freeze ((X5 x.length).map (h'.length+ ·));have fU:∀k,k∈(X5 x.length).map (h'.length+ ·)↔h'.length≤k∧k < h'.length+x.length:=by
  intro k;simp only[XQ,YR];constructor
  ·rintro⟨j,hj,rfl⟩;omega
  ·intro hk;exact⟨k - h'.length,by omega,by omega⟩
 have yf:∀k,k < h'.length→cH (((X5 x.length).map (h'.length+ ·)).map fun k=>(k,.gone)) (aG (h'++x)) k=aG h' k:=by
  intro k hk;rw[mc,if_neg (fun h=>by have:=(fU k).1 h;omega),oW h' x k hk]
 have Ha:∀k,h'.length≤k→∀c:Cx,c.block k (cH (((X5 x.length).map (h'.length+ ·)).map fun k=>(k,.gone)) (aG (h'++x)) k)=none:=by
  intro k hk c;rw[mc];split
  ·rfl
  ·rename_i hn;have:h'.length+x.length≤k:=by
    rcases XP k (h'.length+x.length)with h1|h1
    ·exact absurd ((fU k).2 ⟨hk,h1⟩) hn
    ·exact h1
   rw[mU _ k (by simpa using this)];rfl
 generalize ei:({c with M:=lB c (bQ e (h'++x)).heap ((X5 x.length).map (h'.length+ ·))}:Cx)=cc at hf;have cJ:∀k,(cc.cut h'.length).block k (aG h' k)=if k < h'.length then cc.block k (aG h' k)else none:=by
  intro k;by_cases hk:k < h'.length
  ·rw[if_pos hk];cases aG h' k<;>simp[Cx.block,Cx.cut,hk]
  ·rw[if_neg hk,mU h' k (by omega)];rfl
 have hold:∀k b,(cc.cut h'.length).block k (aG h' k)=some b→cc.block k (cH (((X5 x.length).map (h'.length+ ·)).map fun k=>(k,.gone)) (aG (h'++x)) k)=some b:=by
  intro k b hb;rw[cJ]at hb;split at hb
  ·rename_i hk;rw[yf k hk];exact hb
  ·cases hb
 refine⟨cc.cut h'.length,hf.size,hf.defers,hf.ext,hf.inv,hf.fresh,fun b=>?_,fun k b hb=>hf.new k b (hold k b hb),fun k k' b hb hb'=>hf.apart k k' b (hold k b hb) (hold k' b hb'),fun t=>?_,fun k=>?_,fun k hk=>?_⟩
 ·show cc.M b↔_;rw[hf.mu b];constructor
  ·rintro (h0|⟨k,hk⟩)
   ·exact .inl h0
   ·refine .inr ⟨k,?_⟩;show (cc.cut h'.length).block k (aG h' k)=_;rw[cJ];rcases XP k h'.length with h1|h1
    ·rw[if_pos h1];have:=yf k h1;simp only[bQ]at hk;rw[this]at hk;exact hk
    ·simp only[bQ]at hk;rw[Ha k h1]at hk;cases hk
  ·rintro (h0|⟨k,hk⟩)
   ·exact .inl h0
   ·exact .inr ⟨k,hold k b hk⟩
 ·show RepP (cc.cut h'.length) w (ft e' t) _;rcases B6 he t with h0|h0
  ·rw[h0];exact .any _
  ·have h1:=uY hb t;rw[h0]at h1 ⊢;exact(hf.env t).cut h1
 ·show ChunkOK (cc.cut h'.length) w k (aG h' k);rcases XP k h'.length with h1|h1
  ·have a9:=hf.chunk k;simp only[bQ]at a9;rw[yf k h1]at a9;have Hb:=sf hbh k;have tZ:(cc.cut h'.length).bl k=cc.bl k:=by show (if k < h'.length then cc.bl k else none)=_;rw[if_pos h1]
   have eh:∀g,(cc.cut h'.length).ov k g=cc.ov k g:=fun g=>by show (if k < h'.length then cc.ov k g else none)=_;rw[if_pos h1]
   cases Pp:aG h' k with
   |none=>rw[Pp]at a9;cases a9 with|none q1 q2=>exact .none (by rw[tZ];exact q1) (fun g=>by rw[eh];exact q2 g)
   |gone=>exact .gone
   |box T cells=>
    rw[Pp]at a9 Hb;cases a9 with
    |box _ _ b vs q1 q2 q3 q4=>
     exact .box T cells b vs (by rw[tZ];exact q1) q2 ⟨q3.1,fun j d v hj hv=>(q3.2 j d v hj hv).cut (js (by simpa[aQ]using Hb) d (Xl hj))⟩ q4
   |mp nB sB ents=>
    rw[Pp]at a9;cases a9 with
    |mp _ _ _ b q1 q2 q3=>exact .mp nB sB ents b (by rw[tZ];exact q1) q2 q3
   |it nB sB ents seen=>
    rw[Pp]at a9;cases a9 with
    |it _ _ _ _ b bm q1 q2 q3 q4=>exact .it nB sB ents seen b bm (by rw[tZ];exact q1) q2 q3 q4
   |row E sz g rows=>
    rw[Pp]at a9 Hb;cases a9 with
    |row _ _ _ _ v xs q1 q2 q3 q4 q5 q6=>exact .row E sz g rows v xs (by rw[eh];exact q1) q2 ⟨q3.1,fun j d v hj hv=>(q3.2 j d v hj hv).cut (js (tv (by simpa[aQ]using Hb)) d (Xl hj))⟩ q4 q5 (fun g' hg=>by rw[eh];exact q6 g' hg)
  ·rw[mU h' k h1];refine .none ?_ fun g=>?_
   ·show (if k < h'.length then cc.bl k else none)=_;rw[if_neg (by omega)]
   ·show (if k < h'.length then cc.ov k g else none)=_;rw[if_neg (by omega)]
 ·have hk':k < h'.length:=by omega
  obtain⟨q1,q2⟩:=hf.lent k hk;refine⟨?_,fun g v hv=>?_⟩
  ·show (if k < h'.length then cc.bl k else none)=_;rw[if_pos hk'];exact q1
  ·show (if k < h'.length then cc.ov k g else none)=_;rw[if_pos hk'];exact q2 g v hv
theorem eA.trans {P:Program}{n m:Nat}{e e' e'':cw}{h h' h'':List Chunk}(h1:eA P n m e h e' h')(h2:eA P n m e' h' e'' h''):eA P n m e h e'' h'':=fun X hX hn hm a w hr=>h2 X hX hn hm a w (h1 X hX hn hm a w hr)
theorem jP (h:List Chunk)(c:Chunk)(k:Nat):aG (h++[c]) k=if k=h.length then c else aG h k:=by
 rcases Zb k h.length with h1|h1|h1
 ·rw[oW h [c] k h1,if_neg (by omega)]
 ·subst h1;rw[if_pos rfl];induction h with
  |nil=>rfl
  |cons a l ih=>exact ih
 ·rw[if_neg (by omega),mU _ k (by simp;omega),mU h k (by omega)]
theorem dr {P:Program}{n m:Nat}{e:cw}{h:List Chunk}(lq:m≤h.length)(t E sz:Nat)(ht:ft e t= .d (.v (.slice none 0 0))):eA P n m e h ((t,.own h.length 0)::e) (h++[.row E sz 0 []]):=by
 intro X _ _ qq a w hr;obtain⟨c,hc⟩:=hr;obtain⟨c',q1,q2⟩:=hc.new_row (k:=h.length) (w':=w) (gu h) (by omega) E sz [] (.slice none 0 0) [] (Below.refl _ _) .nil (fun b hb=>by cases hb) ⟨rfl,fun j d x h=>by simp at h⟩ (by simp) (by simp);have hv:a.tmps.getD t undef= .slice none 0 0:=hc.bool ht;refine⟨c',q1.size,q1.defers,q1.ext,q1.inv,q1.fresh,?_,?_,?_,fun t'=>?_,?_,q1.lent⟩
 ·intro b;have:=q1.mu b;simp only[qA,bQ]at this ⊢;simpa[jP]using this
 ·intro k b;have:=q1.new k b;simp only[qA,bQ]at this ⊢;simpa[jP]using this
 ·intro k k' b;have:=q1.apart k k' b;simp only[qA,bQ]at this ⊢;simpa[jP]using this
 ·simp only[bQ,ft];by_cases h1:t'=t
  ·subst h1;rw[if_pos rfl,hv];exact q2
  ·rw[if_neg h1];exact q1.env t'
 ·intro k;have:=q1.chunk k;simp only[qA,bQ]at this ⊢;simpa[jP]using this
theorem au {P:Program}{n m:Nat}{e:cw}{h:List Chunk}(lq:m≤h.length)(kb T:Nat)(cells:List PV)(j E sz:Nat)(hk:aG h kb= .box T cells)(hj:cells[j]? =some (.d (.v (.slice none 0 0)))){h':List Chunk}(hh:h'=bw h kb (.box T (ay cells j [.own h.length 0]))++[.row E sz 0 []]):eA P n m e h e h':=by
 intro X _ _ qq a w hr;subst hh;obtain⟨c,hc⟩:=hr;obtain⟨c',q1,q2⟩:=hc.new_row (k:=h.length) (w':=w) (gu h) (by omega) E sz [] (.slice none 0 0) [] (Below.refl _ _) .nil (fun b hb=>by cases hb) ⟨rfl,fun j d x h=>by simp at h⟩ (by simp) (by simp);have hlt:kb < h.length:=oV (by rw[hk];simp);have MJ:j < cells.length:=(Xn.1 hj).1;have ph:(bw h kb (.box T (ay cells j [.own h.length 0]))).length=h.length:=by
  have:∀(l:List Chunk) (k:Nat) (c:Chunk),k < l.length→(bw l k c).length=l.length:=by
   intro l;induction l with
   |nil=>intro k c hk;simp at hk
   |cons a l ih=>
    intro k c hk;cases k with
    |zero=>rfl
    |succ k=>simp only[bw,XA];rw[ih k c (by simpa using hk)]
  exact this h kb _ hlt
 have db:∀k,aG (bw h kb (.box T (ay cells j [.own h.length 0]))++[.row E sz 0 []]) k=if k=h.length then .row E sz 0 []else if k=kb then .box T (ay cells j [.own h.length 0])else aG h k:=by
  intro k;rw[jP,ph,gL (by omega)]
 have hold:∀k,cH [(h.length,Chunk.row E sz 0 [])] (aG h) k=if k=h.length then .row E sz 0 []else aG h k:=fun k=>rfl;have cJ:∀k,c'.block k (aG (bw h kb (.box T (ay cells j [.own h.length 0]))++[.row E sz 0 []]) k)=c'.block k (cH [(h.length,Chunk.row E sz 0 [])] (aG h) k):=by
  intro k;rw[db,hold];by_cases h1:k=h.length
  ·rw[if_pos h1,if_pos h1]
  ·rw[if_neg h1,if_neg h1];by_cases h2:k=kb
   ·subst h2;rw[if_pos rfl,hk];rfl
   ·rw[if_neg h2]
 refine⟨c',q1.size,q1.defers,q1.ext,q1.inv,q1.fresh,?_,?_,?_,q1.env,?_,q1.lent⟩
 ·intro b;have:=q1.mu b;simp only[bQ]at this ⊢;simpa only[cJ]using this
 ·intro k b;have:=q1.new k b;simp only[bQ]at this ⊢;rwa [cJ]
 ·intro k k' b;have:=q1.apart k k' b;simp only[bQ]at this ⊢;rwa [cJ,cJ]
 ·intro k;have a9:=q1.chunk k;simp only[bQ]at a9 ⊢;rw[db];rw[hold]at a9;by_cases h1:k=h.length
  ·rw[if_pos h1]at a9 ⊢;exact a9
  ·rw[if_neg h1]at a9 ⊢;by_cases h2:k=kb
   ·subst h2;rw[if_pos rfl];rw[hk]at a9;have A6:=hc.chunk k;simp only[bQ]at A6;rw[hk]at A6;cases a9 with
    |box _ _ b vs g1 g2 g3 g4=>
     have hvj:vs[j]? =some (.slice none 0 0):=by
      have hjv:j < vs.length:=by rw[←g3.1];exact MJ
      obtain⟨u,hu⟩:∃u,vs[j]? =some u:=⟨_,Xk hjv⟩;have:=g3.2 j _ u hj hu;cases this with
      |d _ _ h=>cases h;exact hu
     have gS:ay vs j [.slice none 0 0]=vs:=by
      apply Yj;intro i;rw[iA (by simp;rw[←g3.1];exact MJ)];split
      ·rename_i hi;obtain rfl:i=j:=by simp at hi;omega
       rw[hvj];simp
      ·rfl
     have r5:bH c' w [.own h.length 0] [.slice none 0 0]:=⟨rfl,fun i d x hd hx=>by
      cases i with
      |zero=>simp at hd hx;subst hd;subst hx;exact q2
      |succ i=>simp at hd⟩
     have ki:=l6 (off:=j) g3 r5 (by simp;omega);rw[gS]at ki;exact .box T _ b vs g1 g2 ki (fun d hd=>(kE hd).elim (g4 d) (fun hd=>by simp at hd;subst hd;rfl))
   ·rw[if_neg h2];exact a9
mutual
def fz (k g:Nat)(d:D):PV→PV
 | .own k' g'=>if k'=k∧g'=g then .d d else .own k' g'
 | .clo f caps=> .clo f (gy k g d caps)
 | .agg l=> .agg (gy k g d l)
 | .tup l=> .tup (gy k g d l)
 | .d x=> .d x
 | .any=> .any
 | .ptr k' o=> .ptr k' o
 | .rp k' g' sz i j=> .rp k' g' sz i j
 | .osl k' g' sz a n=> .osl k' g' sz a n
 | .mref k'=> .mref k'
def gy (k g:Nat)(d:D):List PV→List PV
 |[]=>[]
 |p::l=>fz k g d p::gy k g d l
end
theorem lC (k g:Nat)(d:D):∀l,gy k g d l=l.map (fz k g d)
 |[]=>rfl
 |p::l=>by simp only[gy,lC k g d l,Xm]
theorem bW (k g:Nat)(d:D):∀(l:List D),gy k g d (l.map .d)=l.map .d
 |[]=>rfl
 |x::l=>by simp only[Xm,gy,fz,bW k g d l]
def f9 (k g:Nat)(d:D):List (List PV)→List (List PV)
 |[]=>[]
 |r::l=>gy k g d r::f9 k g d l
theorem oX (k g:Nat)(d:D):∀l,f9 k g d l=l.map (·.map (fz k g d))
 |[]=>rfl
 |p::l=>by simp only[f9,oX k g d l,lC,Xm]
theorem bS (k g:Nat)(d:D):∀(l:List (List D)),f9 k g d (ab l)=ab l
 |[]=>rfl
 |x::l=>by
  have:=bS k g d l;simp only[ab]at this;simp only[ab,Xm,f9,bW,this]
theorem F9 (k g:Nat)(d:D)(l:List (List PV))(i:Nat)(r:List PV):f9 k g d (l.set i r)=(f9 k g d l).set i (gy k g d r):=by
 simp only[oX,lC,List.map_set]
def g8 (k g:Nat)(d:D):Chunk→Chunk
 | .box T cells=> .box T (gy k g d cells)
 | .row E sz g' rows=> .row E sz g' (f9 k g d rows)
 |c=>c
def iD (k g:Nat)(d:D):cw→cw
 |[]=>[]
 |(t,p)::l=>(t,fz k g d p)::iD k g d l
def gj (k g:Nat)(d:D):Nat→List Chunk→List Chunk
 |_,[]=>[]
 |j,c::l=>(if j=k then .gone else g8 k g d c)::gj k g d (j+1) l
theorem B7 (k g:Nat)(d:D):∀(e:cw) (t:Nat),ft (iD k g d e) t=fz k g d (ft e t)
 |[],t=>rfl
 |(t',p)::l,t=>by
  simp only[iD,ft];by_cases h:t=t'
  ·rw[if_pos h,if_pos h]
  ·rw[if_neg h,if_neg h];exact B7 k g d l t
theorem Ga (k g:Nat)(d:D):∀(h:List Chunk) (j i:Nat),aG (gj k g d j h) i=if i+j=k then (if i < h.length then .gone else .none)else g8 k g d (aG h i)
 |[],j,i=>by simp[gj,aG,g8]
 |c::l,j,0=>by
  simp only[gj,aG,XG,XA,Nat.zero_lt_succ,if_true]
 |c::l,j,i+1=>by
  simp only[gj,aG];rw[Ga k g d l (j+1) i];have e1:(i+(j+1)=k)=(i+1+j=k):=by apply propext;omega
  have e2:(i < l.length)=(i+1 < (c::l).length):=by apply propext;simp
  simp only[e1,e2]
theorem ap {P:Program}{n m:Nat}{e:cw}{h:List Chunk}(k g E sz:Nat)(rows:List (List D))(hk:aG h k= .row E sz g (ab rows)):eA P n m e h (iD k g (.sl sz rows) e) (gj k g (.sl sz rows) 0 h):=by
 intro X _ _ qq a w hr;obtain⟨c,hc⟩:=hr;have hf:=hc.freeze [k];generalize ei:({c with M:=lB c (bQ e h).heap [k]}:Cx)=cc at hf;have tZ:cc.bl=c.bl:=by rw[←ei]
 have eh:cc.ov=c.ov:=by rw[←ei]
 have Uo:cc.M=lB c (aG h) [k]:=by rw[←ei];rfl
 have hlt:k < h.length:=oV (by rw[hk];simp);have key:∀(p:PV) (v:Value),RepP cc w p v→RepP cc w (fz k g (.sl sz rows) p) v:=by
  intro p v hp;induction hp with
  |own k' g' v h1 h2=>
   simp only[fz];by_cases e:k'=k∧g'=g
   ·rw[if_pos e];obtain⟨rfl,rfl⟩:=e;refine .d _ _ ?_;rw[Uo];have hv:bq (bQ e h).heap 1 (.own k' g')=some (.sl sz rows):=by
     simp only[bq,bQ,hk,if_true,eJ,Ye]
    exact kM hc (T:=[k']) 1 hv (fun k2 i7=>by simpa[cW,bQ,hk,nZ]using i7) (.own k' g' v (by rw[←eh];exact h1) h2)
   ·rw[if_neg e];exact .own k' g' v h1 h2
  |clo f caps vs hl bA ih=>
   simp only[fz,lC];refine .clo f _ vs (by rw[XD];exact hl) fun j d x hj hx=>?_;rw[Xz,XO]at hj;obtain⟨y,hy,rfl⟩:=hj;exact ih j y x hy hx
  |agg caps vs hl h1 bA ih=>
   simp only[fz,lC];refine .agg _ vs (by rw[XD];exact hl) (fun d hd=>?_) fun j d x hj hx=>?_
   ·obtain⟨y,hy,rfl⟩:=XQ.1 hd;have:=h1 y hy;cases y<;>simp only[fz]<;>first|exact this|(split<;>first|rfl|exact this)
   ·rw[Xz,XO]at hj;obtain⟨y,hy,rfl⟩:=hj;exact ih j y x hy hx
  |tup caps vs hl bA ih=>
   simp only[fz,lC];refine .tup _ vs (by rw[XD];exact hl) fun j d x hj hx=>?_;rw[Xz,XO]at hj;obtain⟨y,hy,rfl⟩:=hj;exact ih j y x hy hx
  |d x v h1=>exact .d x v h1
  |any v=>exact .any v
  |ptr k' off b h1=>exact .ptr k' off b h1
  |rp k' g' sz' i j b nn cap h1=>exact .rp k' g' sz' i j b nn cap h1
  |osl k' g' sz' a' nn b o N cap h1 h2 h3 h4=>exact .osl k' g' sz' a' nn b o N cap h1 h2 h3 h4
  |mref k' b h1=>exact .mref k' b h1
 have one:∀(y:PV),y.one=true→(fz k g (.sl sz rows) y).one=true:=by
  intro y hy;cases y<;>simp only[fz]<;>first|exact hy|(split<;>first|rfl|exact hy)
 have keys:∀(l:List PV) (vs:List Value),bH cc w l vs→bH cc w (l.map (fz k g (.sl sz rows))) vs:=by
  intro l vs hl;refine⟨by rw[XD];exact hl.1,fun j d x hj hx=>?_⟩;rw[Xz,XO]at hj;obtain⟨y,hy,rfl⟩:=hj;exact key _ _ (hl.2 j y x hy hx)
 have db:∀i,aG (gj k g (.sl sz rows) 0 h) i=g8 k g (.sl sz rows) (cH ([k].map fun k=>(k,.gone)) (aG h) i):=by
  intro i;rw[Ga,mc,XW];by_cases e:i=k
  ·subst e;rw[if_pos rfl,if_pos hlt,if_pos (by simp)];rfl
  ·rw[if_neg e,if_neg (by simpa using e)]
 have po:∀i ch,cc.block i (g8 k g (.sl sz rows) ch)=cc.block i ch:=fun i ch=>by cases ch<;>rfl
 refine⟨cc,hf.size,hf.defers,hf.ext,hf.inv,hf.fresh,fun b=>?_,fun i b hb=>?_,fun i j b hb hb'=>?_,fun t=>?_,fun i=>?_,hf.lent⟩
 ·rw[hf.mu b];simp only[bQ,db,po]
 ·simp only[bQ,db,po]at hb;exact hf.new i b hb
 ·simp only[bQ,db,po]at hb hb';exact hf.apart i j b hb hb'
 ·show RepP cc w (ft (iD k g (.sl sz rows) e) t) _;rw[B7];exact key _ _ (hf.env t)
 ·have a9:=hf.chunk i;simp only[bQ,db]at a9 ⊢;generalize cH ([k].map fun k=>(k,.gone)) (aG h) i=ch at a9;cases a9 with
  |none h1 h2=>exact .none h1 h2
  |gone=>exact .gone
  |mp nB sB ents b h1 h2 h3=>exact .mp nB sB ents b h1 h2 h3
  |it nB sB ents seen b bm h1 h2 h3 h4=>exact .it nB sB ents seen b bm h1 h2 h3 h4
  |box T cells b vs h1 h2 h3 h4=>
   refine .box T _ b vs h1 h2 (by rw[lC];exact keys _ _ h3) (fun d hd=>?_);rw[lC]at hd;obtain⟨y,hy,rfl⟩:=XQ.1 hd;exact one y (h4 y hy)
  |row E' sz' g' rows' v xs h1 h2 h3 h4 h5 h6=>
   refine .row E' sz' g' _ v xs h1 (by rw[oX,XD];exact h2) (by rw[oX,←List.map_flatten];exact keys _ _ h3) (fun r hr=>?_) (fun r hr d hd=>?_) h6
   ·rw[oX]at hr;obtain⟨y,hy,rfl⟩:=XQ.1 hr;rw[XD];exact h4 y hy
   ·rw[oX]at hr;obtain⟨y,hy,rfl⟩:=XQ.1 hr;obtain⟨z,hz,rfl⟩:=XQ.1 hd;exact one z (h5 y hy z hz)
theorem bn {P:Program}{n m:Nat}{e e':cw}{h h':List Chunk}(he:e=e')(hh:h=h'):eA P n m e h e' h':=by
 subst he;subst hh;exact eA.refl _ _ _ _ _
section
open Go.Proofs
def EF (n:Int):Int:=2 ^ (16 - n).toNat - 1
theorem Am (n:Int):EF n=((2 ^ (16 - n).toNat - 1:Nat):Int):=by
 have:=Z' (n:=(16 - n).toNat);have h4:((2 ^ (16 - n).toNat:Nat):Int)=(2:Int) ^ (16 - n).toNat:=by simp
 unfold EF;omega
theorem vr (n:Int)(h0:0≤n):(2:Int) ^ (16 - n).toNat≤65536∧1≤(2:Int) ^ (16 - n).toNat:=by
 have h1:(16 - n).toNat≤16:=by omega
 have h2:=Nat.pow_le_pow_right (n:=2) (by omega) h1;have h3:=Z' (n:=(16 - n).toNat);have h4:((2 ^ (16 - n).toNat:Nat):Int)=(2:Int) ^ (16 - n).toNat:=by simp
 omega
theorem pY (n:Int)(h0:0≤n):0≤EF n∧EF n≤65535:=by
 have:=vr n h0;unfold EF;omega
theorem od (n:Int)(w:World)(h0:0≤n)(h1:n≤16):
 Calls prog 49 #[.int .i64 n] w fun e w'=>e= .returned (.int .i64 (EF n))∧w=w':=by
 have hp:=vr n h0;go_enter func49,ntmps49
 go_wp2
 go_ret
 exact⟨rfl,rfl⟩
def chk (a l:Int):Int:=if l < 0∨l>16∨a < 0∨a>65535 then 3 else if a % 2 ^ (16 - l).toNat=0 then 0 else 1
theorem N6 (a l:Int)(h0:0≤a)(h1:a≤65535)(h2:0≤l):bits .and .i64 a (EF l)=a % 2 ^ (16 - l).toNat:=by
 obtain⟨n,rfl⟩:=Int.eq_ofNat_of_zero_le h0;rw[Am,B4 _ _ (by omega) (by have:=pY l h2;rw[Am]at this;omega),U'];simp
theorem Km {a l:Int}(h:l < 0∨l>16∨a < 0∨a>65535):chk a l=3:=if_pos h
theorem EH {a l:Int}(h1:0≤l)(h2:l≤16)(h3:0≤a)(h4:a≤65535):chk a l=if a % 2 ^ (16 - l).toNat=0 then 0 else 1:=if_neg (by omega)
theorem oY (a l:Int)(w:World):
 Calls prog 114 #[.agg #[.int .i64 a,.int .i64 l]] w fun e w'=>e= .returned (.int .i64 (chk a l))∧dA w w':=by
 by_cases hl:l < 0∨l>16∨a < 0∨a>65535
 ·have hc:=Xj (Km hl);by_cases h1:l < 0
  ·clear hl;go_enter func114,ntmps114
   go_wp2_with fail
   go_ret
   exact⟨cf hc.out.symm,(Below.refl _ _).alloc (XB _) _⟩
  by_cases h2:l>16
  ·clear hl;go_enter func114,ntmps114
   go_wp2_with fail
   go_ret
   exact⟨cf hc.out.symm,(Below.refl _ _).alloc (XB _) _⟩
  by_cases h3:a < 0
  ·clear hl;go_enter func114,ntmps114
   go_wp2_with fail
   go_ret
   exact⟨cf hc.out.symm,(Below.refl _ _).alloc (XB _) _⟩
  have h4:a>65535:=by omega
  clear hl;go_enter func114,ntmps114
  go_wp2_with fail
  go_ret
  exact⟨cf hc.out.symm,(Below.refl _ _).alloc (XB _) _⟩
 ·have hm:=pY l (by omega);obtain⟨g1,g2,g3,g4⟩:0≤l∧l≤16∧0≤a∧a≤65535:=by omega
  clear hl;have hc:=Xj (EH g1 g2 g3 g4);have ha:=Xj (N6 a l g3 g4 g1);go_enter func114,ntmps114
  go_wp2_with fail
  go_quiet ((go_at_call 49;exact Calls.quiet_of_same ((od _ _ (by omega) (by omega)).mono (fun _ _ h=>⟨h.1,h.2.symm⟩))))
  go_wp2_with fail
  ·go_ret
   rename_i h;rw[ha.out]at h;exact⟨cf (by rw[hc.out,if_neg (by simpa using h)]),below_drewN ((Below.refl _ _).alloc (XB _) _) _⟩
  ·go_ret
   rename_i h;rw[ha.out]at h;exact⟨cf (by rw[hc.out,if_pos (by simpa using h)]),below_drewN ((Below.refl _ _).alloc (XB _) _) _⟩
structure Pfx where
 at_:Int
 len:Int
 deriving DecidableEq
def cQ (cs:List Value)(p:Pfx):Prop:=cs=[.int .i64 p.at_,.int .i64 p.len]
def Pfx.chk (p:Pfx):Int:=Go.Proofs.YtmicljipaiohkaaGreat.chk p.at_ p.len
theorem yN {A:lW}{w:World}{ao:Option Addr}{cap:Nat}{l:List Pfx}(h:Sl A w 2 cQ ao cap l):
 Calls prog 48 #[.slice ao l.length cap] w fun e w'=>e= .returned (.bool (l.all fun p=>p.chk==0))∧dA w w':=by
 have fV:=h.cap_le;have Jw:=h.cap_max;go_enter func48,ntmps48
 go_wp2_with fail
 go_loopw [7] (fun i wr=>∃k:Nat,k≤l.length∧i= .int .i64 k∧(∀p∈l.take k,p.chk=0)∧Bel w.heap.size w wr) (fun i _=>l.length - (intOf i).toNat)
 case atStart=>exact⟨0,XE _,rfl,by simp,Bel.refl _⟩
 case round=>
  obtain⟨k,hk,rfl,bP,hb⟩:=hrel;by_cases hlt:k < l.length
  ·obtain⟨b,off,cs,hao,-,-,hR,hc⟩:=h.elem k hlt;generalize hp:l[k]=p at hR;unfold cQ at hR;subst hR;have Jh:=hc 0 (by simp);have Pz:=hc 1 (by simp);simp at Jh Pz;have tZ:=dF Jh;have Jh:=hb.cell tZ Jh;have Pz:=hb.cell tZ Pz;replace hp:=Xj hp;replace bP:=Xj bP;clear hc;subst hao;go_wp2_with fail
   have hle:=hb.le;refine(oY _ _ _).mono ?_;rintro e w1 ⟨rfl,cl⟩;have Qe:Bel w.heap.size w w1:=by(repeat(first|with_reducible assumption|with_reducible exact Bel.refl _|with_reducible refine Bel.alloc ?_ _|with_reducible refine Bel.drewN ?_ _|with_reducible refine Bel.drew ?_|(with_reducible refine Bel.setCell0 ?_ ?_ _;rotate_left;(first|omega|(simp;done)|(simp;omega)))|(with_reducible refine Bel.setCell ?_ (p:=_) ?_ _;rotate_left;(first|(simp;done)|omega|(simp;omega)))|refine Bel.call ?_ (by assumption)|(refine EX.bel ?_ (by assumption) ?_;rotate_left;(first|omega|(simp;omega)))))
   replace Qe:=Xj Qe;clear hb;by_cases hz:Go.Proofs.YtmicljipaiohkaaGreat.chk p.at_ p.len=0
   ·have Eh:(Go.Proofs.YtmicljipaiohkaaGreat.chk p.at_ p.len !=0)=false:=by simp[hz]
    replace hz:=Xj hz;go_wp2_with fail
    go_roundw
    case rel=>exact⟨k+1,by omega,by go_num,by
     intro q hq;rw[List.take_succ_eq_append_getElem hlt]at hq;rcases X3.1 hq with hq|hq
     ·exact bP.out q hq
     ·rw[Yc.1 hq,hp.out];exact hz.out,Qe.out⟩
    case measure=>simp[intOf];omega
   ·have Eh:(Go.Proofs.YtmicljipaiohkaaGreat.chk p.at_ p.len !=0)=true:=by simp[hz]
    go_wp2_with fail
    go_ret
    refine⟨?_,Qe.out.bel⟩;have:(l.all fun p=>p.chk==0)=false:=by
     rw[Y2];exact⟨l[k],Ym hlt,by rw[hp.out];simpa[Pfx.chk]using hz⟩
    rw[this];rfl
  ·obtain rfl:k=l.length:=by omega
   go_wp2_with fail
   go_ret
   refine⟨?_,hb.bel⟩;have:(l.all fun p=>p.chk==0)=true:=by
    rw[XC];intro p hp;rw[Xt]at bP;simpa using bP p hp
   rw[this];rfl
end
theorem ag {α:Type}{l:List α}{k:Nat}{x:α}(h:l[k]? =some x):l.take (k+1)=l.take k++[x]:=by
 rw[List.take_add_one,h];rfl
structure Lse where
 at_:Pfx
 kind:Int
 owner:Int
 till:Int
 deriving DecidableEq
structure Rul where
 min:Int
 max:Int
 usual:Int
 cool:Int
 deriving DecidableEq
structure Pol where
 id:Int
 up:Int
 root:Pfx
 rule:Rul
 leases:List Lse
 deriving DecidableEq
structure Bok where
 tick:Int
 pools:List Pol
 deriving DecidableEq
@[go_sem] def SM (n:Int):D:= .v (.int .i64 n)
@[go_sem] def aN (p:Pfx):List D:=[.v (.int .i64 p.at_),.v (.int .i64 p.len)]
@[go_sem] def pp (r:Rul):List D:=[.v (.int .i64 r.min),.v (.int .i64 r.max),.v (.int .i64 r.usual),.v (.int .i64 r.cool)]
@[go_sem] def aV (l:Lse):List D:=[.v (.int .i64 l.at_.at_),.v (.int .i64 l.at_.len),.v (.int .i64 l.kind),.v (.int .i64 l.owner),.v (.int .i64 l.till)]
@[go_sem] def ah (p:Pol):List D:=[.v (.int .i64 p.id),.v (.int .i64 p.up),.v (.int .i64 p.root.at_),.v (.int .i64 p.root.len),.v (.int .i64 p.rule.min),.v (.int .i64 p.rule.max),.v (.int .i64 p.rule.usual),.v (.int .i64 p.rule.cool),.sl 5 (p.leases.map aV)]
@[go_sem] def aS (b:Bok):List D:=[.v (.int .i64 b.tick),.sl 9 (b.pools.map ah)]
def EI (root:Pfx)(us:List Pfx):List D:=[.v (.int .i64 root.at_),.v (.int .i64 root.len),.sl 2 (us.map aN)]
theorem B8 (p:Pfx):(aN p).length=2:=rfl
structure Fce where
 id:Int
 addrs:List Int
 deriving DecidableEq
structure Sbn where
 id:Int
 at_:Pfx
 faces:List Fce
 deriving DecidableEq
structure Rng where
 at_:Pfx
 pool:Int
 deriving DecidableEq
structure Vpc where
 id:Int
 ranges:List Rng
 subs:List Sbn
 deriving DecidableEq
@[go_sem] def cy (n:Int):List D:=[.v (.int .i64 n)]
@[go_sem] def cj (f:Fce):List D:=[.v (.int .i64 f.id),.sl 1 (f.addrs.map cy)]
@[go_sem] def aT (s:Sbn):List D:=[.v (.int .i64 s.id),.v (.int .i64 s.at_.at_),.v (.int .i64 s.at_.len),.sl 2 (s.faces.map cj)]
@[go_sem] def bp (r:Rng):List D:=[.v (.int .i64 r.at_.at_),.v (.int .i64 r.at_.len),.v (.int .i64 r.pool)]
@[go_sem] def al (v:Vpc):List D:=[.v (.int .i64 v.id),.sl 3 (v.ranges.map bp),.sl 4 (v.subs.map aT)]
theorem vt (f:Fce):(cj f).length=2:=rfl
theorem me (s:Sbn):(aT s).length=4:=rfl
theorem mf (r:Rng):(bp r).length=3:=rfl
theorem iS (v:Vpc):(al v).length=3:=rfl
structure Lnk where
 a:Int
 b:Int
 deriving DecidableEq
structure Net where
 vpcs:List Vpc
 links:List Lnk
 deriving DecidableEq
@[go_sem] def bG (l:Lnk):List D:=[.v (.int .i64 l.a),.v (.int .i64 l.b)]
@[go_sem] def aK (n:Net):List D:=[.sl 3 (n.vpcs.map al),.sl 2 (n.links.map bG)]
structure Ste where
 book:Bok
 net:Net
 deriving DecidableEq
structure Cmd where
 op:Int
 a:Int
 b:Int
 c:Int
 at_:Pfx
 rule:Rul
 deriving DecidableEq
structure Ans where
 err:Int
 at_:Pfx
 n:Int
 deriving DecidableEq
def Ans.zero:Ans:=⟨0,⟨0,0⟩,0⟩
def Ans.er (e:Int):Ans:=⟨e,⟨0,0⟩,0⟩
def Ste.zero:Ste:=⟨⟨0,[]⟩,⟨[],[]⟩⟩
@[go_sem] def fw (s:Ste):List D:=[.v (.int .i64 s.book.tick),.sl 9 (s.book.pools.map ah),.sl 3 (s.net.vpcs.map al),.sl 2 (s.net.links.map bG)]
@[go_sem] def mg (c:Cmd):List D:=[.v (.int .i64 c.op),.v (.int .i64 c.a),.v (.int .i64 c.b),.v (.int .i64 c.c),.v (.int .i64 c.at_.at_),.v (.int .i64 c.at_.len),.v (.int .i64 c.rule.min),.v (.int .i64 c.rule.max),.v (.int .i64 c.rule.usual),.v (.int .i64 c.rule.cool)]
@[go_sem] def tC (a:Ans):List D:=[.v (.int .i64 a.err),.v (.int .i64 a.at_.at_),.v (.int .i64 a.at_.len),.v (.int .i64 a.n)]
theorem mV (h:List Chunk)(k:Nat)(ch:Chunk)(hk:k < h.length):aG (bw h k ch)=cH [(k,ch)] (aG h):=by
 funext i;rw[gL (p' hk),qA]
theorem Kn {P:Program}{n m:Nat}{e:cw}{h:List Chunk}(t k g E sz l:Nat)(rows:List (List PV))(ht:ft e t= .osl k g sz 0 l)(hk:aG h k= .row E sz g rows)(bB:rows≠[])(hl:l≤rows.length){e':cw}{h':List Chunk}(he:e'=(t,.own k (g+1))::e)(hh:h'=bw h k (.row E sz (g+1) (rows.take l))):eA P n m e h e' h':=by
 intro X _ _ qq a w hr;subst he;subst hh;obtain⟨c,hc⟩:=hr;have hlt:k < h.length:=oV (by rw[hk];simp);have RE:=hc.env t;have a9:=hc.chunk k;have ht':(bQ e h).env t= .osl k g sz 0 l:=ht;have hk':(bQ e h).heap k= .row E sz g rows:=hk;rw[ht']at RE;rw[hk']at a9;generalize hv:a.tmps.getD t undef=v at RE;cases RE with
 |osl _ _ _ _ _ b o N cap eh hn Qa MG=>
  obtain⟨cur,xs,q1,q2,q3,q4,q5,q6,q7,q8,q9,q10,q11⟩:=ef a9 eh bB;have zI:0 < rows.length:=Zd.2 bB;obtain rfl:o=0:=by rw[MG (by omega)];simp
  have da:OwnV w E sz (.slice (some ⟨b,0,none⟩) l (cap - 0)) (rows.take l).length (xs.take (l*sz)):=by
   rw[Xq,Nat.min_eq_left hl];have Ry:l*sz≤rows.length*sz:=Yt sz hl;refine .row b l (cap - 0) cur _ (by omega) q1 (by omega) (by omega) q11 (by rw[Xq];omega) ?_;apply Yj;intro j;by_cases hj:j < l*sz
   ·rw[XS hj,XS hj,X6,q4 j (by omega)]
   ·rw[XT (by rw[Xq];omega),XT (by rw[Xq];omega)]
  obtain⟨c',r1,r2⟩:=hc.set_row (w':=w) hk' eh ⟨rfl,rfl,rfl,XB _,fun _ _ _=>rfl⟩ da (.inl (by rw[dk (by omega),dk (by omega)])) (by rw[iQ q5];exact⟨by rw[Xq,Xq,q2.1],fun j d x hj hx=>by
   have FK:j < l*sz:=by
    have:=(Xn.1 hj).1;rw[Xq]at this;omega
   rw[XS FK]at hj hx;exact q2.2 j d x hj hx⟩)
   (fun r hr=>q5 r (Yf hr)) (fun r hr=>q6 r (Yf hr))
  have mM:=mV h k (.row E sz (g+1) (rows.take l)) hlt;refine⟨c',r1.size,r1.defers,r1.ext,r1.inv,r1.fresh,?_,?_,?_,fun t'=>?_,?_,r1.lent⟩
  ·intro b;have:=r1.mu b;simp only[bQ,mM]at this ⊢;exact this
  ·intro k b;have:=r1.new k b;simp only[bQ,mM]at this ⊢;exact this
  ·intro k k' b;have:=r1.apart k k' b;simp only[bQ,mM]at this ⊢;exact this
  ·simp only[bQ,ft];by_cases h1:t'=t
   ·subst h1;rw[if_pos rfl,hv];exact r2
   ·rw[if_neg h1];exact r1.env t'
  ·intro k;have:=r1.chunk k;simp only[bQ,mM]at this ⊢;exact this
theorem HM {P:Program}{n m:Nat}{e:cw}{h:List Chunk}(t k g E sz:Nat)(rows:List (List PV))(ht:ft e t= .own k g)(hk:aG h k= .row E sz g rows){e':cw}{h':List Chunk}(he:e'=(t,.own k (g+1))::e)(hh:h'=bw h k (.row E sz (g+1) rows)):eA P n m e h e' h':=by
 intro X _ _ qq a w hr;subst he;subst hh;obtain⟨c,hc⟩:=hr;have hlt:k < h.length:=oV (by rw[hk];simp);have RE:=hc.env t;have a9:=hc.chunk k;have ht':(bQ e h).env t= .own k g:=ht;have hk':(bQ e h).heap k= .row E sz g rows:=hk;rw[ht']at RE;rw[hk']at a9;generalize hv:a.tmps.getD t undef=v at RE;cases RE with
 |own _ _ _ eh h1=>
  cases a9 with
  |row _ _ _ _ u xs hu da hr cT h1' hg=>
   rw[eh]at hu;cases hu;obtain⟨c',r1,r2⟩:=hc.set_row (w':=w) hk' eh ⟨rfl,rfl,rfl,XB _,fun _ _ _=>rfl⟩ da (.inl rfl) hr cT h1';have mM:=mV h k (.row E sz (g+1) rows) hlt;refine⟨c',r1.size,r1.defers,r1.ext,r1.inv,r1.fresh,?_,?_,?_,fun t'=>?_,?_,r1.lent⟩
   ·intro b;have:=r1.mu b;simp only[bQ,mM]at this ⊢;exact this
   ·intro k b;have:=r1.new k b;simp only[bQ,mM]at this ⊢;exact this
   ·intro k k' b;have:=r1.apart k k' b;simp only[bQ,mM]at this ⊢;exact this
   ·simp only[bQ,ft];by_cases h1:t'=t
    ·subst h1;rw[if_pos rfl,hv];exact r2
    ·rw[if_neg h1];exact r1.env t'
   ·intro k;have:=r1.chunk k;simp only[bQ,mM]at this ⊢;exact this
theorem B9 (p q:PV)(e:cw)(t:Nat):ft ((0,q)::[(0,p)]) t=ft [(0,q)] t:=by
 simp only[ft];by_cases h0:t=0
 ·rw[if_pos h0,if_pos h0]
 ·rw[if_neg h0,if_neg h0,if_neg h0]
theorem fW {P:Program}{m:Nat}{h:List Chunk}(k g E sz:Nat)(rows:List (List PV))(hk:aG h k= .row E sz g rows){e':cw}{h':List Chunk}(hw:eA P 1 m [(0,.own k (g+1))] (bw h k (.row E sz (g+1) rows)) e' h'):eA P 1 m [(0,.own k g)] h e' h':=
 ((HM 0 k g E sz rows rfl hk rfl rfl).trans (sr fun t=> .inr (B9 _ _ [] t).symm)).trans hw
theorem iT {P:Program}{m:Nat}{h:List Chunk}(lq:m≤h.length)(E sz:Nat){e':cw}{h':List Chunk}(hw:eA P 1 m [(0,.own h.length 0)] (h++[.row E sz 0 []]) e' h'):eA P 1 m [(0,.d (.v (.slice none 0 0)))] h e' h':=
 ((dr lq 0 E sz rfl).trans (sr fun t=> .inr (B9 _ _ [] t).symm)).trans hw
theorem aL {P:Program}{n m:Nat}{e:cw}{h:List Chunk}(k:Nat)(hk:k < h.length):eA P n m e h e (bw h k .gone):=by
 intro X _ _ qq a w hr;obtain⟨c,hc⟩:=hr;have hf:=hc.freeze [k];have mM:=mV h k .gone hk;refine⟨_,hf.size,hf.defers,hf.ext,hf.inv,hf.fresh,?_,?_,?_,hf.env,?_,hf.lent⟩
 ·intro b;have:=hf.mu b;simp only[bQ,mM,Xm,Xv]at this ⊢;exact this
 ·intro k b;have:=hf.new k b;simp only[bQ,mM,Xm,Xv]at this ⊢;exact this
 ·intro k k' b;have:=hf.apart k k' b;simp only[bQ,mM,Xm,Xv]at this ⊢;exact this
 ·intro k;have:=hf.chunk k;simp only[bQ,mM,Xm,Xv]at this ⊢;exact this
theorem qP {P:Program}{f sz:Nat}{pl ql:List PV}{h0 h1:List Chunk}{r:PV}(h:∀(ao:Option Addr) (cap:Nat),MSpec P f (pl++ .d (.v (.slice ao 0 cap))::ql) h0 r h1):MSpec P f (pl++ .d (.sl sz [])::ql) h0 r h1:=by
 have Up:=h none 0;have tZ:∀(d d':D) (n:Nat) (pl:List PV),an n (pl++ .d d::ql)=an n (pl++ .d d'::ql):=by
  intro d d' n pl;induction pl with
  |nil=>simp only[Ya,an,aq]
  |cons a pl ih=>simp only[X8,an,ih]
 refine⟨Up.fn,Up.le,(tZ _ _ _ pl).trans Up.ba,Up.bh,fun X hP hn hm' w c vs hr ly=>?_⟩;have bR:=ly.1;obtain⟨v,hv⟩:∃v,vs[pl.length]? =some v:=⟨_,Xk (by rw[←bR];simp)⟩;have hd:=ly.2 pl.length (.d (.sl sz [])) v (by simp) hv;have hd:=cp hd;have key:∀ao cap,v= .slice ao 0 cap→bH c w (pl++ .d (.v (.slice ao 0 cap))::ql) vs:=by
  rintro ao cap rfl;refine⟨by simpa using bR,fun j d x hj hx=>?_⟩;rcases Zb j pl.length with hlt|rfl|hgt
  ·exact ly.2 j d x (by rw[X2 hlt]at hj ⊢;exact hj) hx
  ·rw[hv]at hx;cases hx;simp at hj;subst hj;exact .d _ _ (.v _)
  ·refine ly.2 j d x ?_ hx;rw[XH (by omega)]at hj ⊢;obtain⟨i,hi⟩:∃i,j - pl.length=i+1:=⟨j - pl.length - 1,by omega⟩;rw[hi]at hj ⊢;exact hj
 cases hd with
 |nil _ ao cap hm=>exact(h ao cap).run X hP hn hm' w c vs hr (key _ _ rfl)
 |sl _ _ b off cap f hM hb hc hm=>
  exact(h _ cap).run X hP hn hm' w c vs hr (key _ _ rfl)
theorem qQ {P:Program}{m:Nat}{h:List Chunk}(k g E sz l:Nat)(rows:List (List PV))(hk:aG h k= .row E sz g rows)(bB:rows≠[])(hl:l≤rows.length){e':cw}{h':List Chunk}(hw:eA P 1 m [(0,.own k (g+1))] (bw h k (.row E sz (g+1) (rows.take l))) e' h'):eA P 1 m [(0,.osl k g sz 0 l)] h e' h':=
 ((Kn 0 k g E sz l rows rfl hk bB hl rfl rfl).trans (sr fun t=>by
  simp only[ft];by_cases h0:t=0
  ·rw[if_pos h0,if_pos h0];exact .inr rfl
  ·rw[if_neg h0,if_neg h0];exact .inl rfl)).trans hw
structure Tg.{u}{α:Sort u}(a:α):Type where
 mk::
def pD (p:PV)(A B:Prop)(_:Tg A)(_:Tg B):Prop:=match p with| .d (.v (.bool t))=>(t=true→A)∧(t=false→B)|_=>False
def gK (g:Option Bool)(A B:Prop)(_:Tg A)(_:Tg B):Prop:=match g with|some g=>(g=true→A)∧(g=false→B)|none=>False
def Ko (l:List Oper)(_:Tg l)(sm:List (List Nat × List Nat)):Prop:=(nT ⟨l⟩ sm.reverse&&nV ⟨l⟩)=true
def N7 (draw:Bool)(l:List Oper)(_:Tg l)(sm:List (List Nat × List Nat))(A:Prop)(_:Tg A):Prop:=match draw with|true=>Ko l ⟨⟩ sm∧A|false=>A
def An (ds:List (Option Nat))(e:cw)(g:Option (Nat × Bool)):Option Bool:=
 match g with
 |none=>some true
 |some (j,want)=>match ds[j]? with|some dj=>(Aj dj e).map (·==some want)|none=>none
abbrev KT:=Exit→cw→List Chunk→Prop
def nK (K:KT):cw→List Chunk→Prop:=K .normal
def ss (C:cw→List Chunk→Prop)(K:KT):KT
 | .normal,e,h=>C e h
 |x,e,h=>K x e h
def tD (K:KT)(_:Tg K)(x:Exit)(e:cw)(h:List Chunk):Prop:=K x e h
def Nm (P:Program)(r:SR)(dst:Option Nat)(e:cw)(h:List Chunk)(sm:List (List Nat × List Nat))(R:cw→List Chunk→List (List Nat × List Nat)→Prop)(_:Tg R):Prop:=Ak P r dst e h sm R
section
variable (P:Program)(n m:Nat)(T:Nat→Option TI)(Q:Nat→Option Nat)
def rO (draw:Bool)(ops:List Oper)(K:KT):(l:List Oper)→Tg (ops,K,l)→List (Option Nat)→cw→List Chunk→List (List Nat × List Nat)→Prop
 |[],_,_,e,h,sm=>N7 draw ops ⟨⟩ sm (tD K ⟨⟩ .normal e h) ⟨⟩
 |o::l,_,ds,e,h,sm=>gK (An ds e o.guard) (Nm P (Nl T Q e h o) o.dst e h sm (fun e' h' sm'=>rO draw ops K l ⟨⟩ (ds++[o.dst]) e' h' sm') ⟨⟩) (rO draw ops K l ⟨⟩ (ds++[o.dst]) (gw e o.dst (.d (.v undef))) h (([],[])::sm)) ⟨⟩ ⟨⟩
def lD:Code→Bool
 | .seq a b=>lD a&&lD b
 | .block _ c=>lD c
 | .cond _ a b=>lD a&&lD b
 | .region _ ops _=>ops.toList.all (Kf n)
 | .loop c=>lD c
 | .rangeFunc _ _ a b=>lD a&&lD b
 |_=>true
def Ca (c:Code)(K:KT)(_:Tg (c,K))(e:cw)(h:List Chunk):Prop:=lD n c=true→tz P n m (.loop c) K e h
def SN (c:Code)(K:KT)(_:Tg (c,K))(e:cw)(h:List Chunk):Prop:=tz P n m c K e h
def sC:(c:Code)→(K:KT)→Tg (c,K)→cw→List Chunk→Prop
 | .seq a b,K,_,e,h=>sC a (vq (sC b K ⟨⟩) K) ⟨⟩ e h
 | .block id c,K,_,e,h=>sC c (xK id (nK K) K) ⟨⟩ e h
 | .skip,K,_,e,h=>tD K ⟨⟩ .normal e h
 | .exit i,K,_,e,h=>tD K ⟨⟩ (.exit i) e h
 | .ret,K,_,e,h=>tD K ⟨⟩ .ret e h
 | .label _,K,_,e,h=>tD K ⟨⟩ .normal e h
 | .cond c a b,K,_,e,h=>pD (dK e c) (sC a K ⟨⟩ e h) (sC b K ⟨⟩ e h) ⟨⟩ ⟨⟩
 | .region _ ⟨ops⟩ draw,K,_,e,h=>m≤h.length∧rO P T Q draw ops K ops ⟨⟩ [] e h []
 | .loop c,K,_,e,h=>Ca P n m c K ⟨⟩ e h
 |c,K,_,e,h=>SN P n m c K ⟨⟩ e h
end
theorem HN {ds:List (Option Nat)}{full:List (Option Nat)}(hp:∃x,full=ds++x){e:cw}{o:Oper}{g:Bool}(h:An ds e o.guard=some g):so full e o=some g:=by
 obtain⟨x,rfl⟩:=hp;unfold An at h;unfold so;cases hg:o.guard with
 |none=>rw[hg]at h;exact h
 |some jw=>
  obtain⟨j,want⟩:=jw;rw[hg]at h;simp only at h ⊢;cases hd:ds[j]? with
  |none=>rw[hd]at h;cases h
  |some dj=>
   rw[hd]at h;have hj:=(Xn.1 hd).1;rw[XK,X2 hj,hd];exact h
theorem mh {P:Program}{n:Nat}{T:Nat→Option TI}{Q:Nat→Option Nat}{draw:Bool}{ops:List Oper}{K:KT}:∀(l:List Oper) (pre:List Oper) (e:cw) (h:List Chunk) (sm:List (List Nat × List Nat)),ops=pre++l→l.all (Kf n)=true→
 rO P T Q draw ops K l ⟨⟩ (pre.map (·.dst)) e h sm→ud P n T Q draw ⟨ops⟩ (ops.map (·.dst)) l e h sm (K .normal)
 |[],pre,e,h,sm,_,_,hs=>by
  unfold rO N7 at hs;unfold ud;cases draw with
  |true=>exact⟨fun _=>hs.1,hs.2⟩
  |false=>exact⟨(fun h=>(by cases h)),hs⟩
 |o::l,pre,e,h,sm,lR,hb,hs=>by
  simp only[List.all_cons,Xy]at hb;have MK:ops=(pre++[o])++l:=by rw[lR];simp
  have fA:pre.map (·.dst)++[o.dst]=(pre++[o]).map (·.dst):=by simp
  refine HK hb.1 fun R hR=>?_;unfold rO gK at hs;unfold QD;rw[fA]at hs;split at hs
  ·rename_i g hg;rw[HN (full:=ops.map (·.dst)) ⟨(o::l).map (·.dst),by rw[lR];simp⟩ hg];cases g with
   |true=>
    have hs:=hs.1 rfl;show Ak _ _ _ _ _ _ _;unfold Nm Ak at hs;unfold Ak;split at hs
    ·exact hs
    ·obtain⟨a,b,c⟩:=hs;exact⟨a,b,hR _ _ _ (mh l _ _ _ _ MK hb.2 c)⟩
    ·rcases hs with⟨ds,r,a,b,c,d⟩|⟨ls,args,h0,r,h1,a,b,c,d,e1,f,g⟩|⟨ls,args,h0,r,a,b,c,d,e1,f,g⟩
     ·exact .inl ⟨ds,r,a,b,c,hR _ _ _ (mh l _ _ _ _ MK hb.2 d)⟩
     ·exact .inr (.inl ⟨ls,args,h0,r,h1,a,b,c,d,e1,f,hR _ _ _ (mh l _ _ _ _ MK hb.2 g)⟩)
     ·exact .inr (.inr ⟨ls,args,h0,r,a,b,c,d,e1,f,hR _ _ _ (mh l _ _ _ _ MK hb.2 g)⟩)
   |false=>exact hR _ _ _ (mh l _ _ _ _ MK hb.2 (hs.2 rfl))
  ·exact hs.elim
theorem iU {P:Program}{n m:Nat}{T:Nat→Option TI}{Q:Nat→Option Nat}(cq:TabOK P T Q)(mN:P.follows .mixedOrders=true):∀(c:Code) (K:KT) (e:cw) (h:List Chunk),lD n c=true→sC P n m T Q c K ⟨⟩ e h→tz P n m c K e h
 | .seq a b,K,e,h,hb,hs=>by
  simp only[lD,Xy]at hb;refine F8 fun C hC=>?_;intro X hX hn qq ac w hr;refine wp_mono (iU cq mN a _ e h hb.1 hs X hX hn qq ac w hr) fun ex a' w' ⟨e',h',hk,hr'⟩=>⟨e',h',?_,hr'⟩;cases ex with
  |normal=>exact hC _ _ (iU cq mN b _ _ _ hb.2 hk)
  |_=>exact hk
 | .block id c,K,e,h,hb,hs=>by
  refine HJ fun C hC=>?_;intro X hX hn qq ac w hr;refine wp_mono (iU cq mN c _ e h hb hs X hX hn qq ac w hr) fun ex a' w' ⟨e',h',hk,hr'⟩=>⟨e',h',?_,hr'⟩;cases ex with
  |normal=>exact hC _ _ hk
  |exit i=>
   simp only[xK]at hk ⊢;split
   ·rename_i hi;rw[if_pos hi]at hk;exact hC _ _ hk
   ·rename_i hi;rw[if_neg hi]at hk;exact hk
  |_=>exact hk
 | .skip,K,e,h,_,hs=>Kk hs
 | .exit i,K,e,h,_,hs=>Kl hs
 | .ret,K,e,h,_,hs=>N5 hs
 | .label _,K,e,h,_,hs=>HL hs
 | .cond c a b,K,e,h,hb,hs=>by
  simp only[lD,Xy]at hb;simp only[sC,pD]at hs;split at hs
  ·rename_i t ht;exact Kj ht (fun h0=>iU cq mN a _ _ _ hb.1 (hs.1 h0)) (fun h0=>iU cq mN b _ _ _ hb.2 (hs.2 h0))
  ·exact hs.elim
 | .region id ⟨ops⟩ draw,K,e,h,hb,hs=>by
  intro X hX hn qq a w hr;subst hX;subst hn;subst qq;exact Al cq mN (K:=K .normal) hs.1 (mh ops [] _ _ _ rfl hb hs.2) hr fun e' h' a' w' hk hr'=>⟨e',h',hk,hr'⟩
 | .loop c,K,e,h,hb,hs=>hs hb
 | .rangeFunc _ _ _ _,K,e,h,_,hs=>hs
 | .scope _,K,e,h,_,hs=>hs
 | .goto _,K,e,h,_,hs=>hs
 | .refuse _,K,e,h,_,hs=>hs
section
variable {P:Program}{n m:Nat}{T:Nat→Option TI}{Q:Nat→Option Nat}
theorem bL (cq:TabOK P T Q)(mN:P.follows .mixedOrders=true){c:Code}{K:Exit→cw→List Chunk→Prop}{e:cw}{h:List Chunk}(I:Nat→cw→List Chunk→Prop)(mm:Nat)(e1:cw)(h1:List Chunk)(h0:I mm e1 h1)(hw:eA P n m e h e1 h1)
 (hr:∀k e h,I k e h→∀C:cw→List Chunk→Prop,(∀k' e1 h1 e h,k' < k→I k' e1 h1→eA P n m e h e1 h1→C e h)→sC P n m T Q c (ss C K) ⟨⟩ e h):Ca P n m c K ⟨⟩ e h:=
 fun hb=>B5 I mm e1 h1 h0 hw fun k e h hI C hC=>(show ss C K=vq C K from funext fun x=>by cases x<;>rfl) ▸ iU cq mN c _ _ _ hb (hr k e h hI C hC)
theorem qR (cq:TabOK P T Q)(mN:P.follows .mixedOrders=true){c:Code}{K:Exit→cw→List Chunk→Prop}{e:cw}{h:List Chunk}(N:Nat)(I:Nat→Prop)(E:Nat→cw)(H:Nat→List Chunk)(h0:I 0)(hw:eA P n m e h (E 0) (H 0))
 (hr:∀k,k < N→I k→∀C:cw→List Chunk→Prop,(∀e h,I (k+1)→eA P n m e h (E (k+1)) (H (k+1))→C e h)→sC P n m T Q c (ss C K) ⟨⟩ (E k) (H k))
 (he:I N→∀C:cw→List Chunk→Prop,sC P n m T Q c (ss C K) ⟨⟩ (E N) (H N)):Ca P n m c K ⟨⟩ e h:=by
 refine bL cq mN (fun j e h=>∃k,k≤N∧j=N - k∧I k∧e=E k∧h=H k) N (E 0) (H 0) ⟨0,XE _,rfl,h0,rfl,rfl⟩ hw ?_;rintro j e h ⟨k,hk,rfl,hI,rfl,rfl⟩ C hC;rcases XP k N with hlt|hge
 ·exact hr k hlt hI C fun e h hI' hw'=>hC _ _ _ e h (by omega) ⟨k+1,hlt,rfl,hI',rfl,rfl⟩ hw'
 ·obtain rfl:k=N:=by omega
  exact he hI C
theorem bo (cq:TabOK P T Q)(mN:P.follows .mixedOrders=true){c:Code}{K:Exit→cw→List Chunk→Prop}{e:cw}{h:List Chunk}{α:Type}(l:List α)(I:Nat→Prop)(E:Nat→cw)(H:Nat→List Chunk)(h0:I 0)(hw:eA P n m e h (E 0) (H 0))
 (hr:∀k x,l[k]? =some x→k < l.length→I k→∀C:cw→List Chunk→Prop,(∀e h,I (k+1)→eA P n m e h (E (k+1)) (H (k+1))→C e h)→sC P n m T Q c (ss C K) ⟨⟩ (E k) (H k))
 (he:I l.length→∀C:cw→List Chunk→Prop,sC P n m T Q c (ss C K) ⟨⟩ (E l.length) (H l.length)):Ca P n m c K ⟨⟩ e h:=
 qR cq mN l.length I E H h0 hw (fun k hk hI=>hr k l[k] (Xk hk) hk hI) he
end
section
variable {P:Program}{n m:Nat}{T:Nat→Option TI}{Q:Nat→Option Nat}{A B:Prop}{s:Tg A}{t:Tg B}
theorem UK:gK (some true) A B s t=A:=by simp[gK]
theorem UL:gK (some false) A B s t=B:=by simp[gK]
theorem cn {b:Bool}(h1:b=true→A)(h2:b=false→B):gK (some b) A B s t:=⟨h1,h2⟩
theorem N8:pD (.d (.v (.bool true))) A B s t=A:=by simp[pD]
theorem N9:pD (.d (.v (.bool false))) A B s t=B:=by simp[pD]
theorem aA {b:Bool}(h1:b=true→A)(h2:b=false→B):pD (.d (.v (.bool b))) A B s t:=⟨h1,h2⟩
theorem SO (b:Bool):(some b==some true)=b:=by cases b<;>rfl
theorem SP (b:Bool):(some b==some false)=!b:=by cases b<;>rfl
theorem UM {b:Bool}:gK (some (!b)) A B s t=gK (some b) B A t s:=by
 cases b<;>simp[gK]
theorem Oa {b:Bool}:pD (.d (.v (.bool (!b)))) A B s t=pD (.d (.v (.bool b))) B A t s:=by
 cases b<;>simp[pD]
theorem QG (a b:PV):qJ (.d (.v (.bool true))) a b= .res a [] [] True:=by
 simp only[qJ];split<;>rfl
theorem QH (a b:PV):qJ (.d (.v (.bool false))) a b= .res b [] [] True:=by
 simp only[qJ];split<;>rfl
theorem QI (t p q:Bool):qJ (.d (.v (.bool t))) (.d (.v (.bool p))) (.d (.v (.bool q)))= .res (.d (.v (.bool (bif t then p else q)))) [] [] True:=rfl
theorem QJ (l:List Oper)(u:Tg l)(sm:List (List Nat × List Nat)):N7 false l u sm A s=A:=rfl
theorem QK (l:List Oper)(u:Tg l)(sm:List (List Nat × List Nat)):N7 true l u sm A s=(Ko l u sm∧A):=rfl
theorem be {l:List Oper}{u:Tg l}{sm:List (List Nat × List Nat)}(h:(nT ⟨l⟩ sm.reverse&&nV ⟨l⟩)=true):Ko l u sm:=h
theorem Ob {p:PV}{eff:List (Nat × Chunk)}{touch:List Nat}{side:Prop}{dst:Option Nat}{e:cw}{h:List Chunk}{sm:List (List Nat × List Nat)}{R:cw→List Chunk→List (List Nat × List Nat)→Prop}{u:Tg R}:
 Nm P (.res p eff touch side) dst e h sm R u=(side∧(eff.all fun kc=>decide (kc.1≤h.length))=true∧R (gw e dst p) (pR eff h) ((eff.map (·.1),touch)::sm)):=rfl
theorem SQ {dst:Option Nat}{e:cw}{h:List Chunk}{sm:List (List Nat × List Nat)}{R:cw→List Chunk→List (List Nat × List Nat)→Prop}{u:Tg R}{g:Nat}{ps:List PV}{ds:List D}{r:D}{tl:List Nat}(hv:SF (aG h) ps=some ds)(hp:af P g ds r)(ht:QA (aG h) ps=tl)(hf:tl=[]∨r.flat=true)(hR:R (gw e dst (.d r)) h (([],tl)::sm)):Nm P (.call g ps) dst e h sm R u:=by
 subst ht;exact QE hv hp hf hR
def Kp (P:Program)(g:Nat)(ds:List D)(tl:List Nat)(dst:Option Nat)(e:cw)(h:List Chunk)(sm:List (List Nat × List Nat))(R:cw→List Chunk→List (List Nat × List Nat)→Prop)(_:Tg R):Prop:=
 ∃r,af P g ds r∧(tl=[]∨r.flat=true)∧R (gw e dst (.d r)) h (([],tl)::sm)
def Kq (P:Program)(g:Nat)(ds:Option (List D))(tl:List Nat)(dst:Option Nat)(e:cw)(h:List Chunk)(sm:List (List Nat × List Nat))(R:cw→List Chunk→List (List Nat × List Nat)→Prop)(u:Tg R):Prop:=
 match ds with
 |some ds=>Kp P g ds tl dst e h sm R u
 |none=>False
theorem bf {dst:Option Nat}{e:cw}{h:List Chunk}{sm:List (List Nat × List Nat)}{R:cw→List Chunk→List (List Nat × List Nat)→Prop}{u:Tg R}{g:Nat}{ps:List PV}(hv:Kq P g (SF (aG h) ps) (QA (aG h) ps) dst e h sm R u):Nm P (.call g ps) dst e h sm R u:=by
 unfold Kq at hv;split at hv
 ·rename_i ds hd;obtain⟨r,hp,hf,hR⟩:=hv;exact SQ hd hp rfl hf hR
 ·exact hv.elim
theorem aB {g:Nat}{ds ds':List D}{tl:List Nat}{dst:Option Nat}{e:cw}{h:List Chunk}{sm:List (List Nat × List Nat)}{R:cw→List Chunk→List (List Nat × List Nat)→Prop}{u:Tg R}{r:D}(hp:af P g ds' r)(hd:pU ds ds')(hf:tl=[]∨r.flat=true)(hR:R (gw e dst (.d r)) h (([],tl)::sm)):Kp P g ds tl dst e h sm R u:=⟨r,hp.args hd,hf,hR⟩
theorem aC {g:Nat}{ds:List D}{tl:List Nat}{dst:Option Nat}{e:cw}{h:List Chunk}{sm:List (List Nat × List Nat)}{R:cw→List Chunk→List (List Nat × List Nat)→Prop}{u:Tg R}{r:D}(hp:af P g ds r)(hf:tl=[]∨r.flat=true)(hR:R (gw e dst (.d r)) h (([],tl)::sm)):Kp P g ds tl dst e h sm R u:=⟨r,hp,hf,hR⟩
theorem yO:∀l:List D,pU l l
 |[]=>trivial
 |d::l=>⟨ai.refl d,yO l⟩
theorem aX (ls:List Nat){dst:Option Nat}{e:cw}{h:List Chunk}{sm:List (List Nat × List Nat)}{R:cw→List Chunk→List (List Nat × List Nat)→Prop}{u:Tg R}{g:Nat}{ps args:List PV}{h0 h1:List Chunk}{r:PV}(hM:MSpec P g args h0 r h1)(ly:ps=iR (eF ls h.length) args)(hl:ls.length=h0.length)(lm:ls.Nodup)(hlt:∀k∈ls,k < h.length)(i9:ax (aG h) (eF ls h.length) 0 h0)
 (hR:R (gw e dst (ren (eF ls h.length) r)) (iC (eF ls h.length) 0 h1 h) ((pS ls h.length h1.length,pS ls h.length h1.length)::sm)):Nm P (.call g ps) dst e h sm R u:=QF ls hM ly hl lm hlt i9 hR
theorem SS (ls:List Nat){dst:Option Nat}{e:cw}{h:List Chunk}{sm:List (List Nat × List Nat)}{R:cw→List Chunk→List (List Nat × List Nat)→Prop}{u:Tg R}{g:Nat}{ps args:List PV}{h0:List Chunk}{r:PV}(hM:MSpec P g args h0 r h0)(ly:ps=iR (eF ls h.length) args)(hl:ls.length=h0.length)(lm:ls.Nodup)(hlt:∀k∈ls,k < h.length)(i9:ax (aG h) (eF ls h.length) 0 h0)
 (hR:R (gw e dst (ren (eF ls h.length) r)) h (([],pS ls h.length h0.length)::sm)):Nm P (.call g ps) dst e h sm R u:= .inr (.inr ⟨ls,args,h0,r,hM,ly,hl,lm,hlt,i9,hR⟩)
variable {K K1:KT}{C:cw→List Chunk→Prop}{e:cw}{h:List Chunk}{b:Code}{i id:Nat}
theorem HO {u:Tg (vq (sC P n m T Q b K ⟨⟩) K1)}:tD (vq (sC P n m T Q b K ⟨⟩) K1) u .normal e h=sC P n m T Q b K ⟨⟩ e h:=rfl
theorem HQ {u:Tg (vq C K1)}:tD (vq C K1) u (.exit i) e h=tD K1 ⟨⟩ (.exit i) e h:=rfl
theorem HR {u:Tg (vq C K1)}:tD (vq C K1) u .ret e h=tD K1 ⟨⟩ .ret e h:=rfl
theorem HS {u:Tg (ss C K1)}:tD (ss C K1) u .normal e h=C e h:=rfl
theorem HT {u:Tg (ss C K1)}:tD (ss C K1) u (.exit i) e h=tD K1 ⟨⟩ (.exit i) e h:=rfl
theorem HU {u:Tg (ss C K1)}:tD (ss C K1) u .ret e h=tD K1 ⟨⟩ .ret e h:=rfl
theorem HV {u:Tg (xK id (nK K) K1)}:tD (xK id (nK K) K1) u .normal e h=tD K ⟨⟩ .normal e h:=rfl
theorem HW {u:Tg (xK id (nK K) K1)}:tD (xK id (nK K) K1) u .ret e h=tD K1 ⟨⟩ .ret e h:=rfl
theorem HX {u:Tg (xK id (nK K) K1)}:tD (xK id (nK K) K1) u (.exit i) e h=if i=id then tD K ⟨⟩ .normal e h else tD K1 ⟨⟩ (.exit i) e h:=rfl
def Kr (T:Nat→Option TI)(rs:List ResultVar)(r:D)(e:cw)(h:List Chunk):Prop:=
 match pC T e h rs with
 |some ps=>match vw (aG h) (xH ps)with
  |some d=>ai d r
  |none=>False
 |none=>False
theorem Gb {rs:List ResultVar}{r:D}{x:Exit}(hx:x= .normal∨x= .ret):qO T rs r x e h=Kr T rs r e h:=by
 apply propext;unfold qO Kr;constructor
 ·rintro⟨-,ps,d,h1,h2,h3⟩;rw[h1];simp only[h2];exact h3
 ·intro h1;refine⟨hx,?_⟩;split at h1
  ·rename_i ps hp;split at h1
   ·rename_i d hd;exact⟨ps,d,hp,hd,h1⟩
   ·exact h1.elim
  ·exact h1.elim
def Ks (P:Program)(m:Nat)(T:Nat→Option TI)(rs:List ResultVar)(r:PV)(h1:List Chunk)(e:cw)(h:List Chunk):Prop:=
 match pC T e h rs with
 |some ps=>eA P 1 m [(0,xH ps)] h [(0,r)] h1
 |none=>False
theorem Gc {rs:List ResultVar}{r:PV}{h1:List Chunk}{x:Exit}(hx:x= .normal∨x= .ret):xI P m T rs r h1 x e h=Ks P m T rs r h1 e h:=by
 apply propext;unfold xI Ks;constructor
 ·rintro⟨-,ps,h2,h3⟩;rw[h2];exact h3
 ·intro h2;refine⟨hx,?_⟩;split at h2
  ·rename_i ps hp;exact⟨ps,hp,h2⟩
  ·exact h2.elim
theorem Cb {rs:List ResultVar}{r:D}{u:Tg (qO T rs r)}:tD (qO T rs r) u .normal e h=Kr T rs r e h:=Gb (.inl rfl)
theorem Cc {rs:List ResultVar}{r:D}{u:Tg (qO T rs r)}:tD (qO T rs r) u .ret e h=Kr T rs r e h:=Gb (.inr rfl)
theorem EJ {rs:List ResultVar}{r:PV}{h1:List Chunk}{u:Tg (xI P m T rs r h1)}:tD (xI P m T rs r h1) u .normal e h=Ks P m T rs r h1 e h:=Gc (.inl rfl)
theorem EK {rs:List ResultVar}{r:PV}{h1:List Chunk}{u:Tg (xI P m T rs r h1)}:tD (xI P m T rs r h1) u .ret e h=Ks P m T rs r h1 e h:=Gc (.inr rfl)
end
def EL (fn:Func)(nt:Nat)(c:Code)(k:Nat):Bool:=!(fn.name== "runtime.NumGoroutine")&&lD nt c&&decide (k≤nt)
theorem UN {P:Program}{f:Nat}{fn:Func}{c:Code}{T:Nat→Option TI}{Q:Nat→Option Nat}{nt:Nat}{rs:Array ResultVar}(cq:TabOK P T Q)(mN:P.follows .mixedOrders=true)(hf:P.funcs[f]? =some fn)(hb:fn.body=some c)(hn:fn.ntmps=nt)(hr:fn.results=rs){ds:List D}{r:D}(hc:EL fn nt c ds.length=true)
 (hp:sC P nt 0 T Q c (qO T rs.toList r) ⟨⟩ (pT (ds.map .d) 0) []):af P f ds r:=by
 subst hn;subst hr;simp only[EL,Xy,Zz,decide_eq_true_eq]at hc;exact B1 cq hf hb (cZ hf hc.1.1 hb) hc.2 (iU cq mN _ _ _ _ hc.1.2 hp)
theorem iV {P:Program}{f:Nat}{fn:Func}{c:Code}{T:Nat→Option TI}{Q:Nat→Option Nat}{nt:Nat}{rs:Array ResultVar}(cq:TabOK P T Q)(mN:P.follows .mixedOrders=true)(hf:P.funcs[f]? =some fn)(hb:fn.body=some c)(hn:fn.ntmps=nt)(hr:fn.results=rs){args:List PV}{h0 h1:List Chunk}{r:PV}(hc:EL fn nt c args.length=true)
 (hle:h0.length≤h1.length) (A5:an h0.length args=true) (hbh:aH h0.length h0=true)
 (hp:sC P nt h0.length T Q c (xI P h0.length T rs.toList r h1) ⟨⟩ (pT args 0) h0):MSpec P f args h0 r h1:=by
 subst hn;subst hr;simp only[EL,Xy,Zz,decide_eq_true_eq]at hc;exact B2 cq hf hb (cZ hf hc.1.1 hb) hc.2 hle A5 hbh (iU cq mN _ _ _ _ hc.1.2 hp)
theorem Kt {α:Type}(l:List α):ay l 0 []=l:=by simp[ay]
theorem Ku {α:Type}(a x:α)(l xs:List α):ay (a::l) 0 (x::xs)=x::ay l 0 xs:=by simp[ay]
theorem Oc {α:Type}(a:α)(n:Nat)(l xs:List α):ay (a::l) (n+1) xs=a::ay l n xs:=by simp only[ay,ZC,X8,Nat.add_right_comm n 1,List.drop_succ_cons]
attribute [go_sem] pT
attribute [go_sem] UK UL N8 N9 QJ QK Ob HO HQ HR HS HT HU HV HW HX Cb Cc EJ EK Kr Ks pC F6 xH vw bq cM dh ux eJ mR QG QH QI Kq SF QA tc jq cW xC Ad nZ JV SO SP UM Oa An sC rO
attribute [go_sem] SG SH SI SJ SK SL Nl dK ft gw pR bw aG SE J1 J3 J2 zW u4 BR u5 u6 oa yJ sh u7 u9 J4 BT BU J5 J6 ve vf FZ F1 vd oc qK vg vh si Ey BV xJ Ki yy cV PV.one D.one Value.oneCell' uR py pz Kt Ku Oc Aj r8 JM Si BS NQ ko iC eF ren iR jN lu pS gM aF aI EB uZ JW IntKind.bits
attribute [go_sem] cond_true cond_false Xm Xv XA XZ List.all_cons List.all_nil ZC Z4 List.drop_succ_cons List.drop_zero List.take_nil List.drop_nil X8 Ya Yw X4 List.reverse_cons List.reverse_nil List.getElem?_cons_zero Yx List.getElem?_nil List.getElem?_toArray Xz Ye Zg YI Option.getD_none Y6 Option.bind_none XG XW decide_true decide_false YA Yr Bool.and_false Bool.false_and Yp Z0 Bool.not_false Bool.true_eq_false YB beq_self_eq_true ne_eq not_true_eq_false not_false_eq_true and_true true_and and_self or_self or_false false_or or_true true_or eq_self forall_const false_implies implies_true Int.toNat_natCast Int.natCast_nonneg Nat.lt_irrefl XB XD XY XX.injEq Prod.mk.injEq YJ XE Nat.zero_lt_succ Nat.lt_add_one List.getD_cons_zero List.getD_cons_succ List.getD_nil List.range_succ List.range_zero YV Xu Xx
section
mutual
theorem Kv:∀p:PV,ren (fun j=>j) p=p
 | .d x=>rfl
 | .any=>rfl
 | .ptr k off=>rfl
 | .own k g=>rfl
 | .rp k g sz i j=>rfl
 | .osl k g sz a n=>rfl
 | .clo g caps=>by simp only[ren,mW caps]
 | .agg l=>by simp only[ren,mW l]
 | .tup l=>by simp only[ren,mW l]
 | .mref k=>rfl
theorem mW:∀l:List PV,iR (fun j=>j) l=l
 |[]=>rfl
 |p::l=>by simp only[iR,Kv p,mW l]
end
theorem Gd:∀l:List (List PV),jN (fun j=>j) l=l
 |[]=>rfl
 |p::l=>by simp only[jN,mW p,Gd l]
theorem Ao (c:Chunk):lu (fun j=>j) c=c:=by cases c<;>simp only[lu,mW,Gd]
theorem HY (n:Nat):eF (X5 n) n=fun j=>j:=by
 funext j;rcases XP j n with h|h
 ·have:=mS (ls:=X5 n) (nk:=n) (j:=j) (by simpa using h);rw[ZU h]at this;exact(XX.inj this).symm
 ·have:=kn (X5 n) n (j - n);rw[List.length_range]at this;rw[show n+(j - n)=j by omega]at this;exact this
theorem mi (a:List Chunk)(c d:Chunk)(b:List Chunk):bw (a++c::b) a.length d=a++d::b:=by
 induction a with
 |nil=>rfl
 |cons x a ih=>simp only[X8,XA,bw,ih]
@[go_sem] theorem kI (a:List Chunk)(d:Chunk):bw a a.length d=a++[d]:=by
 induction a with
 |nil=>rfl
 |cons x a ih=>simp only[X8,XA,bw,ih]
theorem vu:∀(l pre rest:List Chunk),rest.length≤l.length→iC (fun j=>j) pre.length l (pre++rest)=pre++l
 |[],pre,rest,h=>by
  have:rest=[]:=X9 (by simpa using h);subst this;simp[iC]
 |c::l,pre,[],h=>by
  simp only[iC,Yw,Ao,kI];have:=vu l (pre++[c]) [] (by simp);simpa using this
 |c::l,pre,r::rest,h=>by
  simp only[iC,Ao,mi];have:=vu l (pre++[c]) rest (by simpa using h);simpa using this
theorem yP:∀(l pre:List Chunk),ax (aG (pre++l)) (fun j=>j) pre.length l
 |[],_=>trivial
 |c::l,pre=>by
  refine⟨?_,?_⟩
  ·rw[Ao];induction pre with
   |nil=>rfl
   |cons a pre ih=>exact ih
  ·have:=yP l (pre++[c]);simpa using this
section
variable {P:Program}{n m:Nat}{T:Nat→Option TI}{Q:Nat→Option Nat}
theorem Kw {dst:Option Nat}{e:cw}{h:List Chunk}{sm:List (List Nat × List Nat)}{R:cw→List Chunk→List (List Nat × List Nat)→Prop}{u:Tg R}{g:Nat}{ps:List PV}{h1:List Chunk}{r:PV}(hM:MSpec P g ps h r h1)
 (hR:R (gw e dst r) h1 ((X5 h1.length,X5 h1.length)::sm)):Nm P (.call g ps) dst e h sm R u:=by
 have hid:=HY h.length;have hle:=hM.le;refine aX (X5 h.length) hM (by rw[hid,mW]) (by simp) List.nodup_range (fun k hk=>by simpa using hk) (by rw[hid];exact yP h []) ?_;have hh:iC (fun j=>j) 0 h1 h=h1:=vu h1 [] h hle;have hm:pS (X5 h.length) h.length h1.length=X5 h1.length:=by
  unfold pS;rw[hid];simp
 rw[hid,Kv,hh,hm];exact hR
end
theorem EM (l:List (List D))(n:Nat):(ab l).take n=ab (l.take n):=by simp[ab]
theorem HZ {α:Type}(l:List α)(i j k:Nat)(z:α)(hi:i < l.length)(hj:j=i+1)(hk:k=i+(l.length - j)):(ay (ay l i ((l.drop j).take (l.length - j))) k [z]).take k=l.eraseIdx i:=by
 subst hj;subst hk;have h1:(l.drop (i+1)).take (l.length - (i+1))=l.drop (i+1):=XN (by rw[XJ];omega);rw[h1,YK];have h2:(ay l i (l.drop (i+1))).take (i+(l.length - (i+1)))=l.take i++l.drop (i+1):=by
  unfold ay;rw[Yl (by simp;omega),XN (by simp;omega)]
 rw[←h2];have h3:i+(l.length - (i+1))≤(ay l i (l.drop (i+1))).length:=by rw[bg (by rw[XJ];omega)];omega
 generalize ay l i (l.drop (i+1))=l' at h3 ⊢;unfold ay;rw[X4,Yl (by rw[Xq];omega),List.take_take,Zq]
theorem fX {α β:Type}(f:α→β)(l:List α)(i:Nat):(l.eraseIdx i).map f=(l.map f).eraseIdx i:=by
 rw[YK,YK,Xo,ZH,List.map_drop]
theorem lE {α:Type}(l:List α)(i j n:Nat)(hi:i < l.length)(hj:j=i+1)(hn:n=l.length):(ay l i ((l.drop j).take (n - j))).length=l.length:=by
 rw[bg];rw[Xq,XJ];omega
theorem oe {P:Program}{E sz g i j n:Nat}{L:List (List D)}{z:List PV}(hi:i < L.length)(hj:j=i+1)(hn:n=L.length):
 eA P 1 1 [(0,.osl 0 g sz 0 (i+(n - j)))] [.row E sz g (ay (ay (ab L) i (((ab L).drop j).take (n - j))) (i+(n - j)) (XV 1 z))] [(0,.own 0 (g+1))] [.row E sz (g+1) (ab (L.eraseIdx i))]:=by
 have hl:(ab L).length=L.length:=aF L;have h1:=lE (ab L) i j n (by omega) hj (by omega);have h2:(ay (ay (ab L) i (((ab L).drop j).take (n - j))) (i+(n - j)) (XV 1 z)).length=L.length:=by rw[bg (by simp;omega)];omega
 refine qQ 0 g E sz _ _ rfl (fun h=>by rw[h]at h2;simp at h2;omega) (by omega) (bn rfl ?_);have:=HZ (ab L) i j (i+(n - j)) z (by omega) hj (by omega);simp only[bw,List.replicate_one];rw[hn]at this ⊢;rw[hl]at this;rw[this];unfold ab;rw[fX]
def cB {α:Type}(p:α→Bool)(l:List α)(j:Nat):List α:=(l.take j).filter fun x=>!p x
def g9 {α:Type}(p:α→Bool)(l:List α)(j:Nat):List α:=cB p l j++l.drop (cB p l j).length
theorem uz {α:Type}(p:α→Bool)(l:List α)(j:Nat):(cB p l j).length≤j∧(cB p l j).length≤l.length:=by
 have h1:=Za (fun x=>!p x) (l.take j);rw[Xq]at h1;unfold cB;omega
theorem Ge {α:Type}(p:α→Bool)(l:List α)(j:Nat):(g9 p l j).length=l.length:=by
 have:=uz p l j;unfold g9;rw[XY,XJ];omega
theorem Gf {α:Type}(p:α→Bool)(l:List α)(j i:Nat)(h:(cB p l j).length≤i):(g9 p l j)[i]? =l[i]? :=by
 unfold g9;rw[XH h,Yk];congr 1;omega
theorem su {α:Type}{p:α→Bool}{l:List α}{j:Nat}{x:α}(hx:l[j]? =some x):cB p l (j+1)=cB p l j++if p x then []else [x]:=by
 unfold cB;rw[List.take_add_one,hx,YW];cases h:p x<;>simp[h]
theorem PW {α:Type}{p:α→Bool}{l:List α}{j:Nat}{x:α}(hx:l[j]? =some x)(hp:p x=true):cB p l (j+1)=cB p l j∧g9 p l (j+1)=g9 p l j:=by
 have h1:cB p l (j+1)=cB p l j:=by rw[su hx,hp];simp
 exact⟨h1,by unfold g9;rw[h1]⟩
theorem PX {α:Type}{p:α→Bool}{l:List α}{j:Nat}{x:α}(hx:l[j]? =some x)(hp:p x=false):(cB p l (j+1)).length=(cB p l j).length+1∧g9 p l (j+1)=(g9 p l j).set (cB p l j).length x:=by
 have h1:cB p l (j+1)=cB p l j++[x]:=by rw[su hx,hp];simp
 have hj:=(Xn.1 hx).1;have hk:=uz p l j;refine⟨by rw[h1];simp,?_⟩;unfold g9;rw[h1];obtain⟨y,hy⟩:∃y,l[(cB p l j).length]? =some y:=⟨_,Xk (by omega)⟩;have hd:l.drop (cB p l j).length=y::l.drop ((cB p l j).length+1):=by
  obtain⟨hlt,rfl⟩:=Xn.1 hy;exact YQ hlt
 rw[hd,Yu _ _ (XB _),YG,Xu];simp
theorem yQ {α:Type}{p:α→Bool}{l:List α}{i:Nat}(h:l.findIdx? p=some i):i < l.length∧(cB p l (i+1)).length=i∧g9 p l (i+1)=l:=by
 obtain⟨hi,hp,cg⟩:=XI.1 h;have h1:cB p l (i+1)=l.take i:=by
  rw[su (Xk hi),hp];simp only[if_true,Yw];unfold cB;refine Y0.2 fun x hx=>?_;obtain⟨q,hq,rfl⟩:=X0.1 hx;rw[Xq]at hq;have:=cg q (by omega);simp only[ZA];simpa using this
 have h2:(cB p l (i+1)).length=i:=by rw[h1,Xq];omega
 refine⟨hi,h2,?_⟩;unfold g9;rw[h2,h1,YX]
theorem Od {α:Type}(p:α→Bool)(l:List α):cB p l l.length=l.filter fun x=>!p x:=by
 unfold cB;(try rw[Xt])
theorem bO {α:Type}(enc:α→List D)(l:List α)(i:Nat)(x:α):(ab (l.map enc)).set i ((enc x).map .d)=ab ((l.set i x).map enc):=by
 simp only[ab,List.map_set]
structure HpOK (h:List Chunk)(k:Nat):Prop where
 a:∀c,aG (bw h k c) k=c
 b:∀c,(bw h k c).length=h.length
 c:∀c b,aG (bw h k c++[b]) k=c
 d:∀c b,aG (bw h k c++[b]) h.length=b
 e:∀c b,bw (bw h k c) h.length b=bw h k c++[b]
 f:∀c b c',bw (bw h k c++[b]) k c'=bw h k c'++[b]
 g:∀c b b',bw (bw h k c++[b]) h.length b'=bw h k c++[b']
 i:∀c c',bw (bw h k c) k c'=bw h k c'
theorem sv:∀(h:List Chunk) (k:Nat) (c c':Chunk),k < h.length→bw (bw h k c) k c'=bw h k c'
 |a::l,0,c,c',_=>rfl
 |a::l,k+1,c,c',h=>by simp only[bw,sv l k c c' (by simpa using h)]
theorem yR:∀(h b:List Chunk) (k:Nat) (c:Chunk),k < h.length→bw (h++b) k c=bw h k c++b
 |a::l,b,0,c,_=>rfl
 |a::l,b,k+1,c,h=>by simp only[X8,bw,yR l b k c (by simpa using h)]
theorem QL {h:List Chunk}{k:Nat}(hk:k < h.length):HpOK h k:=by
 have hb:∀c,(bw h k c).length=h.length:=fun c=>qN hk;have ha:∀c,aG (bw h k c) k=c:=fun c=>by rw[gL (p' hk),if_pos rfl]
 refine⟨ha,hb,fun c b=>by rw[oW _ _ _ (by rw[hb];exact hk),ha],fun c b=>by rw[jP,hb,if_pos rfl],fun c b=>?_,fun c b c'=>?_,fun c b b'=>?_,fun c c'=>sv h k c c' hk⟩
 ·have:=kI (bw h k c) b;rwa [hb]at this
 ·rw[yR _ _ _ _ (by rw[hb];exact hk),sv h k c c' hk]
 ·have:=mi (bw h k c) b b' [];rwa [hb]at this
theorem sw:∀(h:List Chunk) (k:Nat) (c:Chunk),aG h k=c→k < h.length→bw h k c=h
 |a::l,0,c,e,_=>by subst e;rfl
 |a::l,k+1,c,e,h=>by simp only[bw,sw l k c e (by simpa using h)]
theorem gz (n:Nat):∀(h:List Chunk) (k:Nat) (c:Chunk),aH n h=true→aQ n c=true→k < h.length→aH n (bw h k c)=true
 |a::l,0,c,h1,h2,_=>by simp only[aH,Xy]at h1;simp only[bw,aH,h1.2,h2,Yp]
 |a::l,k+1,c,h1,h2,h3=>by
  simp only[aH,Xy]at h1;simp only[bw,aH,h1.1,gz n l k c h1.2 h2 (by simpa using h3),Yp]
theorem Cd {α:Type}(l xs:List α)(n:Nat)(h:n≤l.length):(ay l n xs).take n=l.take n:=by
 unfold ay;rw[X4,Yl (by rw[Xq];omega),List.take_take,Zq]
theorem yS {α:Type}(p:α→Bool)(l:List α):(g9 p l l.length).take (cB p l l.length).length=l.filter fun x=>!p x:=by
 unfold g9;rw[Yl (XB _),Xt,Od]
theorem yT {P:Program}{E sz g k K n:Nat}{h:List Chunk}{L:List (List D)}{z:List PV}(hk:k < h.length)(hK:K≤L.length)(h0:L≠[])(hn:n=L.length):
 eA P 1 h.length [(0,.osl k g sz 0 (K - 0))] (bw h k (.row E sz g (ay (ab L) K (XV (n - K) z)))) [(0,.own k (g+1))] (bw h k (.row E sz (g+1) (ab (L.take K)))):=by
 obtain⟨ga,gb,gc,gd,ge,gf,gg,gi⟩:=QL hk;have hl:(ab L).length=L.length:=aF L;have hs:(ay (ab L) K (XV (n - K) z)).length=L.length:=by rw[bg (by simp;omega)];exact hl
 have hp:0 < L.length:=Zd.2 h0;refine qQ k g E sz _ _ (ga _) (fun e=>by rw[e]at hs;simp at hs;omega) (by omega) (bn rfl ?_);rw[gi,Yo,Cd _ _ _ (by omega),EM]
theorem aR (k g:Nat)(d:D):∀(l m:List (List PV)),f9 k g d (l++m)=f9 k g d l++f9 k g d m
 |[],m=>rfl
 |r::l,m=>by simp only[X8,f9,aR k g d l m]
def Wl (p q:PV):Prop:=p=q∨∃d d',p= .d d∧q= .d d'∧ai d d'
def ue:List PV→List PV→Prop
 |[],[]=>True
 |p::l,q::m=>Wl p q∧ue l m
 |_,_=>False
theorem qS {c:Cx}{w:World}:∀{l m:List PV}{vs:List Value},ue l m→bH c w l vs→bH c w m vs
 |[],[],vs,_,h=>h
 |[],_::_,vs,h,_=>h.elim
 |_::_,[],vs,h,_=>h.elim
 |p::l,q::m,[],_,h=>by have:=h.1;simp at this
 |p::l,q::m,v::vs,⟨h1,h2⟩,h=>by
  have h3:=qS (vs:=vs) h2 ⟨by simpa using h.1,fun j d x hj hx=>h.2 (j+1) d x (by simpa using hj) (by simpa using hx)⟩;refine⟨by simpa using h3.1,fun j d x hj hx=>?_⟩;cases j with
  |zero=>
   simp at hj hx;subst hj;subst hx;have h0:=h.2 0 p v rfl rfl;rcases h1 with rfl|⟨d,d',rfl,rfl,hle⟩
   ·exact h0
   ·exact .d _ _ (hle _ _ _ (cp h0))
  |succ j=>exact h3.2 j d x (by simpa using hj) (by simpa using hx)
theorem MSpec.lep {P:Program}{f:Nat}{args args':List PV}{h0 h1:List Chunk}{r:PV}(h:MSpec P f args h0 r h1)(hp:ue args' args)(hb:an h0.length args'=true):MSpec P f args' h0 r h1:=
 ⟨h.fn,h.le,hb,h.bh,fun X hP hn hm w c vs hr ly=>h.run X hP hn hm w c vs hr (qS hp ly)⟩
theorem Ap {P:Program}{f:Nat}{fn:Func}{c:Code}{T:Nat→Option TI}{Q:Nat→Option Nat}{nt:Nat}{rs:Array ResultVar}(cq:TabOK P T Q)(mN:P.follows .mixedOrders=true)(hf:P.funcs[f]? =some fn)(hb:fn.body=some c)(hn:fn.ntmps=nt)(hr:fn.results=rs){args:List PV}{h0 h1:List Chunk}{r:PV}(hc:EL fn nt c args.length=true)
 (hle:h0.length≤h1.length) (A5:an h0.length args=true) (hbh:aH h0.length h0=true)
 (hp:sC P nt h0.length T Q c (xI P h0.length T rs.toList r h1) ⟨⟩ (pT args 0) h0):MSpec P f args h0 r h1:=iV cq mN hf hb hn hr hc hle A5 hbh hp
end
structure Hd (Q:Prop):Prop where
 out:Q
structure Or1 (Q:Prop):Prop where
 mk::
structure Ln (ls:List Nat)(P:Program)(g:Nat)(args:List PV)(h0:List Chunk)(r:PV)(h1:List Chunk):Prop where
 out:MSpec P g args h0 r h1
structure Lr (ls:List Nat)(P:Program)(g:Nat)(args:List PV)(h0:List Chunk)(r:PV):Prop where
 out:MSpec P g args h0 r h0
theorem vv {P:Program}{ls:List Nat}{dst:Option Nat}{e:cw}{h:List Chunk}{sm:List (List Nat × List Nat)}{R:cw→List Chunk→List (List Nat × List Nat)→Prop}{u:Tg R}{g:Nat}{ps args:List PV}{h0:List Chunk}{r:PV}(hL:Lr ls P g args h0 r)(ly:ps=iR (eF ls h.length) args)(hl:ls.length=h0.length)(lm:ls.Nodup)(hlt:∀k∈ls,k < h.length)(i9:ax (aG h) (eF ls h.length) 0 h0)
 (hR:R (gw e dst (ren (eF ls h.length) r)) h (([],pS ls h.length h0.length)::sm)):Nm P (.call g ps) dst e h sm R u:=SS ls hL.out ly hl lm hlt i9 hR
theorem Ce {P:Program}{ls:List Nat}{dst:Option Nat}{e:cw}{h:List Chunk}{sm:List (List Nat × List Nat)}{R:cw→List Chunk→List (List Nat × List Nat)→Prop}{u:Tg R}{g:Nat}{ps args:List PV}{h0 h1:List Chunk}{r:PV}(hL:Ln ls P g args h0 r h1)(ly:ps=iR (eF ls h.length) args)(hl:ls.length=h0.length)(lm:ls.Nodup)(hlt:∀k∈ls,k < h.length)(i9:ax (aG h) (eF ls h.length) 0 h0)
 (hR:R (gw e dst (ren (eF ls h.length) r)) (iC (eF ls h.length) 0 h1 h) ((pS ls h.length h1.length,pS ls h.length h1.length)::sm)):Nm P (.call g ps) dst e h sm R u:=aX ls hL.out ly hl lm hlt i9 hR
theorem bl {A:Prop}(h:A:=by first|rfl|simp only[aH,ek,aQ,an,cF,aq,bj,az,XA,XZ,XM,ZR,decide_true,Yp,YA]):A:=h
theorem se {e e':cw}(h:Ht e e':=by repeat' (first|exact trivial|(refine⟨rfl,?_⟩))):Ht e e':=h
theorem wi (k:Nat)(h:k < 9223372036854775807):IntKind.i64.wrap ((k:Int)+1)=((k+1:Nat):Int):=by rw[IntKind.wrap_i64];omega
theorem dg {A:Prop}(h:A:=by repeat(first|exact ai.refl _|exact ai.nil _|(refine ai.tup ?_)|(refine ai.agg ?_ rfl)|exact trivial|(refine And.intro ?_ ?_))):A:=h
theorem dz {a b:D}(h:ai a b:=by repeat(first|exact ai.refl _|exact ai.nil _|(refine ai.tup ?_)|(refine ai.agg ?_ rfl)|exact trivial|(refine And.intro ?_ ?_))):ai a b:=h
theorem wf {P:Program}{n m:Nat}{e e':cw}{h h' x:List Chunk}(hm:m≤h'.length:=by simp)(hh:h=h'++x:=by rfl)(he:Ht e e':=by repeat' (first|exact trivial|(refine⟨rfl,?_⟩)))
 (hb:ek h'.length e'=true:=by first|rfl|simp only[aH,ek,aQ,an,cF,aq,bj,az,XA,XZ,XM,ZR,decide_true,Yp,YA]) (hbh:aH h'.length h'=true:=by first|rfl|simp only[aH,ek,aQ,an,cF,aq,bj,az,XA,XZ,XM,ZR,decide_true,Yp,YA]):eA P n m e h e' h':=ee x hm hh he hb hbh
theorem bc {P:Prop}(h:P:=by
 first|((repeat' (first|(with_reducible refine And.intro ?_ ?_)|(with_reducible refine cn (fun cO=>?_) (fun cO=>?_))|(with_reducible refine aA (fun cO=>?_) (fun cO=>?_))|(with_reducible refine be (by kernel_rfl))|simp -dsimp only[go_sem,seval, *,undef,Xt,Yo,bne_self_eq_false,beq_self_eq_true,XR,YZ,YN]|((with_reducible refine bf ?_);simp -dsimp only[go_sem,seval, *,undef,Xt,Yo,bne_self_eq_false,beq_self_eq_true,XR,YZ,YN];first|refine aC (by assumption) (by first|exact .inl rfl|exact .inr rfl) ?_|(refine aB (by assumption) ?_ ?_ ?_;(solve|(repeat(first|exact ai.refl _|exact ai.nil _|(refine ai.tup ?_)|(refine ai.agg ?_ rfl)|exact trivial|(refine And.intro ?_ ?_))));(solve|exact .inl rfl|exact .inr rfl)))|(refine Ce (by assumption) ?_ ?_ ?_ ?_ ?_ ?_;(solve|rfl|simp only[go_sem,seval]);(solve|rfl);(solve|decide);(solve|simp);(solve|simp only[go_sem,seval,ax]))|(refine vv (by assumption) ?_ ?_ ?_ ?_ ?_ ?_;(solve|rfl|simp only[go_sem,seval]);(solve|rfl);(solve|decide);(solve|simp);(solve|simp only[go_sem,seval,ax]))|omega|exact decide_eq_true (by omega)|exact ai.refl _));done)|fail):P:=h
theorem am {Q1 P:Prop}(q1:Q1)(h:Hd Q1→P:=by
 intro q1;first|((repeat' (first|(with_reducible refine And.intro ?_ ?_)|(with_reducible refine cn (fun cO=>?_) (fun cO=>?_))|(with_reducible refine aA (fun cO=>?_) (fun cO=>?_))|(with_reducible refine be (by kernel_rfl))|simp -dsimp only[go_sem,seval, *,undef,Xt,Yo,bne_self_eq_false,beq_self_eq_true,XR,YZ,YN]|((with_reducible refine bf ?_);simp -dsimp only[go_sem,seval, *,undef,Xt,Yo,bne_self_eq_false,beq_self_eq_true,XR,YZ,YN];first|refine aC (by assumption) (by first|exact .inl rfl|exact .inr rfl) ?_|(refine aB (by assumption) ?_ ?_ ?_;(solve|(repeat(first|exact ai.refl _|exact ai.nil _|(refine ai.tup ?_)|(refine ai.agg ?_ rfl)|exact trivial|(refine And.intro ?_ ?_))));(solve|exact .inl rfl|exact .inr rfl)))|(refine Ce (by assumption) ?_ ?_ ?_ ?_ ?_ ?_;(solve|rfl|simp only[go_sem,seval]);(solve|rfl);(solve|decide);(solve|simp);(solve|simp only[go_sem,seval,ax]))|(refine vv (by assumption) ?_ ?_ ?_ ?_ ?_ ?_;(solve|rfl|simp only[go_sem,seval]);(solve|rfl);(solve|decide);(solve|simp);(solve|simp only[go_sem,seval,ax]))|omega|exact decide_eq_true (by omega)|exact ai.refl _));all_goals((repeat revert cO);first|(with_reducible exact q1.out)))|fail):P:=h ⟨q1⟩
theorem xo {Q1 Q2 P:Prop}(q1:Q1)(q2:Q2)(h:Hd Q1→Hd Q2→P:=by
 intro q1 q2;first|((repeat' (first|(with_reducible refine And.intro ?_ ?_)|(with_reducible refine cn (fun cO=>?_) (fun cO=>?_))|(with_reducible refine aA (fun cO=>?_) (fun cO=>?_))|(with_reducible refine be (by kernel_rfl))|simp -dsimp only[go_sem,seval, *,undef,Xt,Yo,bne_self_eq_false,beq_self_eq_true,XR,YZ,YN]|((with_reducible refine bf ?_);simp -dsimp only[go_sem,seval, *,undef,Xt,Yo,bne_self_eq_false,beq_self_eq_true,XR,YZ,YN];first|refine aC (by assumption) (by first|exact .inl rfl|exact .inr rfl) ?_|(refine aB (by assumption) ?_ ?_ ?_;(solve|(repeat(first|exact ai.refl _|exact ai.nil _|(refine ai.tup ?_)|(refine ai.agg ?_ rfl)|exact trivial|(refine And.intro ?_ ?_))));(solve|exact .inl rfl|exact .inr rfl)))|(refine Ce (by assumption) ?_ ?_ ?_ ?_ ?_ ?_;(solve|rfl|simp only[go_sem,seval]);(solve|rfl);(solve|decide);(solve|simp);(solve|simp only[go_sem,seval,ax]))|(refine vv (by assumption) ?_ ?_ ?_ ?_ ?_ ?_;(solve|rfl|simp only[go_sem,seval]);(solve|rfl);(solve|decide);(solve|simp);(solve|simp only[go_sem,seval,ax]))|omega|exact decide_eq_true (by omega)|exact ai.refl _));all_goals((repeat revert cO);first|(with_reducible exact q1.out)|(with_reducible exact q2.out)))|fail)
 (e1:Or1 Q1:=by first|(with_reducible exact(Or1.mk:Or1 True))|exact Or1.mk) (e2:Or1 Q2:=by first|(with_reducible exact(Or1.mk:Or1 True))|exact Or1.mk):P:=h ⟨q1⟩ ⟨q2⟩
theorem Aq {Q1 Q2 Q3 P:Prop}(q1:Q1)(q2:Q2)(q3:Q3)(h:Hd Q1→Hd Q2→Hd Q3→P:=by
 intro q1 q2 q3;first|((repeat' (first|(with_reducible refine And.intro ?_ ?_)|(with_reducible refine cn (fun cO=>?_) (fun cO=>?_))|(with_reducible refine aA (fun cO=>?_) (fun cO=>?_))|(with_reducible refine be (by kernel_rfl))|simp -dsimp only[go_sem,seval, *,undef,Xt,Yo,bne_self_eq_false,beq_self_eq_true,XR,YZ,YN]|((with_reducible refine bf ?_);simp -dsimp only[go_sem,seval, *,undef,Xt,Yo,bne_self_eq_false,beq_self_eq_true,XR,YZ,YN];first|refine aC (by assumption) (by first|exact .inl rfl|exact .inr rfl) ?_|(refine aB (by assumption) ?_ ?_ ?_;(solve|(repeat(first|exact ai.refl _|exact ai.nil _|(refine ai.tup ?_)|(refine ai.agg ?_ rfl)|exact trivial|(refine And.intro ?_ ?_))));(solve|exact .inl rfl|exact .inr rfl)))|(refine Ce (by assumption) ?_ ?_ ?_ ?_ ?_ ?_;(solve|rfl|simp only[go_sem,seval]);(solve|rfl);(solve|decide);(solve|simp);(solve|simp only[go_sem,seval,ax]))|(refine vv (by assumption) ?_ ?_ ?_ ?_ ?_ ?_;(solve|rfl|simp only[go_sem,seval]);(solve|rfl);(solve|decide);(solve|simp);(solve|simp only[go_sem,seval,ax]))|omega|exact decide_eq_true (by omega)|exact ai.refl _));all_goals((repeat revert cO);first|(with_reducible exact q1.out)|(with_reducible exact q2.out)|(with_reducible exact q3.out)))|fail)
 (e1:Or1 Q1:=by first|(with_reducible exact(Or1.mk:Or1 True))|exact Or1.mk) (e2:Or1 Q2:=by first|(with_reducible exact(Or1.mk:Or1 True))|exact Or1.mk) (e3:Or1 Q3:=by first|(with_reducible exact(Or1.mk:Or1 True))|exact Or1.mk):P:=h ⟨q1⟩ ⟨q2⟩ ⟨q3⟩
theorem Sk {Q1 Q2 Q3 Q4 P:Prop}(q1:Q1)(q2:Q2)(q3:Q3)(q4:Q4)(h:Hd Q1→Hd Q2→Hd Q3→Hd Q4→P:=by
 intro q1 q2 q3 q4;first|((repeat' (first|(with_reducible refine And.intro ?_ ?_)|(with_reducible refine cn (fun cO=>?_) (fun cO=>?_))|(with_reducible refine aA (fun cO=>?_) (fun cO=>?_))|(with_reducible refine be (by kernel_rfl))|simp -dsimp only[go_sem,seval, *,undef,Xt,Yo,bne_self_eq_false,beq_self_eq_true,XR,YZ,YN]|((with_reducible refine bf ?_);simp -dsimp only[go_sem,seval, *,undef,Xt,Yo,bne_self_eq_false,beq_self_eq_true,XR,YZ,YN];first|refine aC (by assumption) (by first|exact .inl rfl|exact .inr rfl) ?_|(refine aB (by assumption) ?_ ?_ ?_;(solve|(repeat(first|exact ai.refl _|exact ai.nil _|(refine ai.tup ?_)|(refine ai.agg ?_ rfl)|exact trivial|(refine And.intro ?_ ?_))));(solve|exact .inl rfl|exact .inr rfl)))|(refine Ce (by assumption) ?_ ?_ ?_ ?_ ?_ ?_;(solve|rfl|simp only[go_sem,seval]);(solve|rfl);(solve|decide);(solve|simp);(solve|simp only[go_sem,seval,ax]))|(refine vv (by assumption) ?_ ?_ ?_ ?_ ?_ ?_;(solve|rfl|simp only[go_sem,seval]);(solve|rfl);(solve|decide);(solve|simp);(solve|simp only[go_sem,seval,ax]))|omega|exact decide_eq_true (by omega)|exact ai.refl _));all_goals((repeat revert cO);first|(with_reducible exact q1.out)|(with_reducible exact q2.out)|(with_reducible exact q3.out)|(with_reducible exact q4.out)))|fail)
 (e1:Or1 Q1:=by first|(with_reducible exact(Or1.mk:Or1 True))|exact Or1.mk) (e2:Or1 Q2:=by first|(with_reducible exact(Or1.mk:Or1 True))|exact Or1.mk) (e3:Or1 Q3:=by first|(with_reducible exact(Or1.mk:Or1 True))|exact Or1.mk) (e4:Or1 Q4:=by first|(with_reducible exact(Or1.mk:Or1 True))|exact Or1.mk):P:=h ⟨q1⟩ ⟨q2⟩ ⟨q3⟩ ⟨q4⟩
theorem Cf {s:Bool}{ents:List (List Int × Int)}{seen:List Nat}(h:(leftOf (bv s ents 0).toArray seen.toArray).size=0){i:Nat}(hi:i < ents.length):i∈seen:=by
 have hg:=n9 s ents 0 i;rw[Xk hi]at hg;have hm:=Xl hg;refine Classical.byContradiction fun hn=>?_;have:{key:=jd s ents[i].1,val:=Value.int .i64 ents[i].2,born:=0+i:MapEntry}∈(leftOf (bv s ents 0).toArray seen.toArray).toList:=by
  unfold leftOf;simp;exact⟨by simpa using hm,by simpa using hn⟩
 have hz:(leftOf (bv s ents 0).toArray seen.toArray).toList=[]:=by
  have:(leftOf (bv s ents 0).toArray seen.toArray)=#[]:=Array.eq_empty_of_size_eq_zero h;rw[this]
 rw[hz]at this;simp at this
theorem Cg {s:Bool}{ents:List (List Int × Int)}{seen:List Nat}{x:MapEntry}(h:x∈(leftOf (bv s ents 0).toArray seen.toArray).toList):∃i,i < ents.length∧i∉seen∧x.born=i:=by
 unfold leftOf at h;simp at h;have:=kq s ents 0 x h.1;exact⟨x.born,by omega,by simpa using h.2,rfl⟩
theorem RealC.set_it {X:Cfg}{s:FS}{a:Act}{w:World}{c:Cx}(h:RealC X s a w c){k n b bm:Nat}{sB:Bool}{ents:List (List Int × Int)}{seen:List Nat}(i:Nat)(hk:s.heap k= .it n sB ents seen)(hb:c.bl k=some b)(hh:w.heap[b]? =some (.mapIter (some bm) ents.length seen.toArray ents.length))(hM:¬c.M bm)(hm:w.heap[bm]? =some (.map (bv sB ents 0).toArray ents.length)):
 RealC X {s with heap:=cH [(k,.it n sB ents (seen++[i]))] s.heap} a {w with heap:=w.heap.setIfInBounds b (.mapIter (some bm) ents.length (seen.toArray.push i) ents.length)} c:=by
 have cJ:c.block k (s.heap k)=some b:=by rw[hk];exact hb
 have hlt:b < w.heap.size:=(Ys.1 hh).1;have bB:b≠bm:=fun e=>hM ((h.mu bm).2 (.inr ⟨k,by rw[cJ,e]⟩));have U9:(w.heap.setIfInBounds b (.mapIter (some bm) ents.length (seen.toArray.push i) ents.length))[b]? =some (.mapIter (some bm) ents.length (seen.toArray.push i) ents.length):=by simp[hlt]
 have pq:∀b',b'≠b→(w.heap.setIfInBounds b (.mapIter (some bm) ents.length (seen.toArray.push i) ents.length))[b']? =w.heap[b']? :=fun b' hb'=>by
  rw[Array.getElem?_setIfInBounds];rw[if_neg (fun e=>hb' e.symm)]
 refine h.turn c.le_refl rfl (fun _ _=>rfl) (fun _ _=>rfl) rfl rfl rfl (by simp) (fun b' _ hb'=>pq b' (fun e=>hb' (by rw[e];exact cJ))) (fun b'=>?_) (fun b' hb'=>?_) (fun lM=>?_)
 ·show c.M b'↔(c.M b'∧c.block k (s.heap k)≠some b')∨c.bl k=some b';rw[cJ,hb];constructor
  ·intro hm;by_cases e:b=b'
   ·exact .inr (by rw[e])
   ·exact .inl ⟨hm,fun h=>e (XX.inj h)⟩
  ·rintro (⟨hm,_⟩|e)
   ·exact hm
   ·exact(h.mu b').2 (.inr ⟨k,by rw[cJ];exact e⟩)
 ·have e:c.bl k=some b':=hb';refine⟨.inl (by rw[cJ,←hb];exact e),?_⟩;simp only[Array.size_setIfInBounds];exact(h.new k b' (by rw[cJ,←hb];exact e)).2
 ·exact .it n sB ents (seen++[i]) b bm hb (by rw[U9];simp) hM (by rw[pq bm (fun e=>bB e.symm)];exact hm)
section
variable {P:Program}{n m:Nat}{T:Nat→Option TI}{Q:Nat→Option Nat}{K K':KT}{e:cw}{h:List Chunk}
theorem Ch {c:Code}(hK:∀x e h,K x e h→K' x e h)(hs:tz P n m c K e h):tz P n m c K' e h:=fun X hX hn qq a w hr=>
 wp_mono (hs X hX hn qq a w hr) fun _ _ _ ⟨e',h',hk,hr'⟩=>⟨e',h',hK _ _ _ hk,hr'⟩
theorem Gg {a b:Code}(cq:TabOK P T Q)(mN:P.follows .mixedOrders=true)(hb:lD n b=true)(ha:tz P n m a (vq (sC P n m T Q b K ⟨⟩) K) e h):tz P n m (.seq a b) K e h:=
 F8 fun C hC=>Ch (fun x e h hk=>by
  cases x with
  |normal=>exact hC _ _ (iU cq mN b _ _ _ hb hk)
  |_=>exact hk) ha
theorem Ci (cq:TabOK P T Q){id d1 d2 k nn:Nat}{o1 o2:Oper}{x:Operand}{sB:Bool}{ents:List (List Int × Int)}{seen:List Nat}(lq:m≤h.length)(Wx:o1.op= .next x false)(TB:o1.guard=none)(DT:o1.dst=some d1)(ML:o2.op= .extract (.tmp d1) 0)(hg2:o2.guard=none)(zM:o2.dst=some d2)(Va:d1 < n)(RF:d2 < n)
 (hx:dK e x= .ptr k 0) (hk:aG h k= .it nn sB ents seen) (uI:k < h.length)
 (h0:(∀i,i < ents.length→i∈seen)→K .normal (gw (gw e (some d1) (.tup [.d (.v (.bool false))])) (some d2) (.d (.v (.bool false)))) h)
 (h1:∀i,i < ents.length→i∉seen→K .normal (gw (gw e (some d1) (.tup [.d (.v (.bool true)),.any,.any])) (some d2) (.d (.v (.bool true)))) (pR [(k,.it nn sB ents (seen++[i]))] h)):tz P n m (.region id #[o1,o2] false) K e h:=by
 intro X hX hn qq a w hr;subst hX;subst hn;subst qq;obtain⟨c,hc⟩:=hr;refine wp_region_list ?_;show wpList X.P #[o1,o2] _ [o1,o2] a w;unfold wpList;rw[if_pos (by unfold Region.wanted;rw[TB])];left;have e1:=bM hc x;rw[aD,hx]at e1;have a9:=hc.chunk k;have i7:(bQ e h).heap k= .it nn sB ents seen:=hk;rw[i7]at a9;generalize hu:a.eval x=u at e1;have fin:∀(tp:PV) (b:Bool) (e':cw) (h':List Chunk) (a':Act) (w':World),e'=gw e (some d1) tp→(∃l,tp= .tup (.d (.v (.bool b))::l))→X.m≤h'.length→kk X (bQ e' h') a' w'→K .normal (gw e' (some d2) (.d (.v (.bool b)))) h'→wpList X.P #[o1,o2] (RK X K) [o2] a' w':=by
  rintro tp b e' h' a' w' he ⟨l,rfl⟩ hm' hr' hK;unfold wpList;rw[if_pos (by unfold Region.wanted;rw[hg2])];left;have lR:Nl T Q e' h' o2= .res (.d (.v (.bool b))) [] [] True:=by
   unfold Nl;rw[ML];simp only[dK];rw[show ft e' d1= .tup (.d (.v (.bool b))::l) by rw[he];simp[gw,ft]];simp[yJ]
  have bF:=Kd (X:=X) (ops:=#[o1,o2]) cq (fun d hd=>by rw[zM]at hd;cases hd;exact RF) hm' lR trivial;refine bF.2.2 (bQ e' h') (fun _ _=>rfl) (fun _ _=>rfl) a' w' hr' _ _ fun v w'' hr''=>?_;unfold wpList;refine⟨_,_,hK,?_⟩;rw[oU (fun kc h=>by simp at h),zM]at hr'';rw[←zM]at hr'';simpa[pR,zM]using hr''
 cases e1 with
 |ptr _ _ b hb=>
  cases a9 with
  |it _ _ _ _ b' bm hb' hh hM hm=>
   rw[hb]at hb';cases hb';have DV:∀(tp:PV) (v:Value) (h':List Chunk) (w':World) (c':Cx),RealC X (bQ e h') a w' c'→RepP c' w' tp v→kk X (bQ (gw e (some d1) tp) h') (a.put o1.dst v) w':=by
    intro tp v h' w' c' hc' hp;have:=hc'.put (dst:=o1.dst) hp (fun d hd=>by rw[DT]at hd;cases hd;exact Va);have h2:=oU (e:=e) (h:=h') (dst:=o1.dst) (p:=tp) (eff:=[]) (touch:=[]) (fun kc h=>by simp at h);rw[←DT];refine⟨c',?_⟩;show RealC X (bQ (gw e o1.dst tp) (pR [] h')) _ w' c';rw[←h2];exact this
   rcases run_next_at (P:=X.P) w o1.type b bm ents.length ents.length seen.toArray (bv sB ents 0).toArray ents.length hh hm (fun x hx=>by have:=kq sB ents 0 x (by simpa using hx);omega) (XB _)with⟨hz,ct⟩|⟨x1,nr,w1,cl,ct⟩
   ·unfold Oper.wp;have Vb:(execOp a.eval o1).run X.P w= .ok (.value (.tuple #[.bool false])) w:=by
     simp only[execOp,Wx,hu];rw[Sem.run_bind,ct];rfl
    rw[Vb];exact fin (.tup [.d (.v (.bool false))]) false _ h _ _ rfl ⟨_,rfl⟩ lq (DV _ _ h w c hc (.tup _ [.bool false] rfl (fun j d y h1 h2=>by
     match j with
     |0=>simp at h1 h2;subst h1;subst h2;exact .d _ _ (.v _)
     |j+1=>simp at h1))) (h0 fun i hi=>Cf hz hi)
   ·obtain⟨i,hi,Ss,Ta⟩:=Cg nr;have Pz:RealC X (bQ e h) a w1 c:=by
     rcases cl with rfl|rfl
     ·exact hc
     ·exact hc.grow ⟨rfl,rfl,rfl,XB _,fun _ _=>rfl⟩
    have w9:w1.heap=w.heap:=by rcases cl with rfl|rfl<;>rfl
    have gS:=Pz.set_it i i7 hb (by rw[w9];exact hh) hM (by rw[w9];exact hm);unfold Oper.wp;have Vb:(execOp a.eval o1).run X.P w= .ok (.value (.tuple #[.bool true,x1.key,x1.val])) {w1 with heap:=w1.heap.setIfInBounds b (.mapIter (some bm) ents.length (seen.toArray.push i) ents.length)}:=by
     simp only[execOp,Wx,hu];rw[Sem.run_bind,ct,←Ta];rfl
    rw[Vb];have bR:∀kc∈[(k,Chunk.it nn sB ents (seen++[i]))],kc.1≤h.length:=fun kc Nq=>by simp at Nq;subst Nq;omega
    have hlc:aG (pR [(k,Chunk.it nn sB ents (seen++[i]))] h)=cH [(k,Chunk.it nn sB ents (seen++[i]))] (aG h):=funext (sn bR);have TC:RealC X (bQ e (pR [(k,Chunk.it nn sB ents (seen++[i]))] h)) a {w1 with heap:=w1.heap.setIfInBounds b (.mapIter (some bm) ents.length (seen.toArray.push i) ents.length)} c:=by
     have:bQ e (pR [(k,Chunk.it nn sB ents (seen++[i]))] h)={bQ e h with heap:=cH [(k,.it nn sB ents (seen++[i]))] (bQ e h).heap}:=by
      simp only[bQ,hlc]
     rw[this];exact gS
    refine fin (.tup [.d (.v (.bool true)),.any,.any]) true _ _ _ _ rfl ⟨_,rfl⟩ ?_ (DV _ _ _ _ c TC (.tup _ [.bool true,x1.key,x1.val] rfl (fun j d y h1 h2=>by
     match j with
     |0=>simp at h1 h2;subst h1;subst h2;exact .d _ _ (.v _)
     |1=>simp at h1 h2;subst h1;exact .any _
     |2=>simp at h1 h2;subst h1;exact .any _
     |j+3=>simp at h1))) (h1 i hi Ss)
    exact Yz lq qM
theorem PY {c:Code}(I:Nat→cw→List Chunk→Prop)(mm:Nat)(e1:cw)(h1:List Chunk)(h0:I mm e1 h1)(hw:eA P n m e h e1 h1)
 (hr:∀k e h,I k e h→∀C:cw→List Chunk→Prop,(∀k' e1 h1 e h,k' < k→I k' e1 h1→eA P n m e h e1 h1→C e h)→tz P n m c (ss C K) e h):Ca P n m c K ⟨⟩ e h:=
 fun _=>B5 I mm e1 h1 h0 hw fun k e h hI C hC=>Ch (fun x e h hk=>by cases x<;>exact hk) (hr k e h hI C hC)
end
@[go_sem] theorem Wm (h:Nat→Chunk)(l:List D):cM (vw h) (l.map .d)=some l:=ux h 6 l
@[go_sem] theorem Wn (h:Nat→Chunk)(l:List D):jq (tc h) (l.map .d)=[]:=Ad h 6 l
def cz {α:Type}(p:α→Bool)(l:List α):Int:=match l.findIdx? p with|some i=>(i:Int)|none=> -1
theorem fY {α:Type}{p:α→Bool}{l:List α}{k:Nat}{x:α}(hx:l[k]? =some x)(hp:p x=true)(cg:∀y∈l.take k,p y=false):cz p l=k:=by
 have h:l.findIdx? p=some k:=by
  rw[XI];obtain⟨hk,hx'⟩:=Xn.1 hx;refine⟨hk,by rw[hx'];exact hp,fun j hj=>?_⟩;have:=cg l[j] (Xl (by rw[XS hj];exact Xk (by omega)));rw[this];simp
 simp[cz,h]
theorem fZ {α:Type}{p:α→Bool}{l:List α}(cg:∀y∈l,p y=false):cz p l= -1:=by
 have h:l.findIdx? p=none:=by rw[Yn];exact cg
 simp[cz,h]
theorem fO {α:Type}(p:α→Bool)(l:List α):decide (cz p l≥0)=l.any p:=by
 unfold cz;cases h:l.findIdx? p with
 |none=>
  rw[Yn]at h;have:l.any p=false:=by rw[Yh];intro x hx;rw[h x hx];simp
  rw[this];rfl
 |some i=>
  obtain⟨hi,hp,_⟩:=XI.1 h;have:l.any p=true:=XU.2 ⟨_,Ym hi,hp⟩;rw[this];simp
def ez (a b:Int):Int:=if a < b then -1 else if a>b then 1 else 0
theorem qT (a b:Int):decide (ez a b < 0)=decide (a < b):=by
 unfold ez;split
 ·simp[*]
 ·split<;>simp[*]
theorem sx (a b:Int):(ez a b==0)=(a==b):=by
 unfold ez;split
 ·rename_i h;rw[Yi];simp;omega
 ·split
  ·rw[Yi];simp;omega
  ·rw[Yi];simp;omega
theorem vx (x:Int):IntKind.u64.wrap x=x % 18446744073709551616:=rfl
def jg {α:Type}(key:α→Int)(t:Int)(l:List α):Nat:=l.findIdx fun x=>decide (t≤key x)
def qU {α:Type}(key:α→Int)(t:Int)(l:List α):Bool:=match l[jg key t l]? with|some x=>key x==t|none=>false
theorem pZ {α:Type}{key:α→Int}{t:Int}{l:List α}{i:Nat}(hi:i≤l.length)(jb:∀q (hq:q < l.length),q < i→key l[q] < t)(j7:∀q (hq:q < l.length),i≤q→t≤key l[q]):jg key t l=i:=by
 unfold jg;rcases XP i l.length with h|h
 ·rw[List.findIdx_eq h];refine⟨by simpa using j7 i h (XB _),fun j hj=>?_⟩;have:=jb j (by omega) hj;simp;omega
 ·obtain rfl:i=l.length:=by omega
  rw[List.findIdx_eq_length];intro x hx;obtain⟨q,hq,rfl⟩:=X0.1 hx;have:=jb q hq hq;simp;omega
theorem pj {f nt:Nat}{fn:Func}{c:Code}{rs:Array ResultVar}{ds:List D}{r:D}(hf:prog.funcs[f]? =some fn)(hn:fn.ntmps=nt)(hr:fn.results=rs)
 (hp:sC prog nt 0 xJ Ki c (qO xJ rs.toList r) ⟨⟩ (pT (ds.map .d) 0) []) (hb:fn.body=some c:=by exact rfl) (hc:EL fn nt c ds.length=true:=by kernel_rfl):af prog f ds r:=UN ae ak hf hb hn hr hc hp
theorem mj {f nt:Nat}{fn:Func}{c:Code}{rs:Array ResultVar}{args:List PV}{h0 h1:List Chunk}{r:PV}(hf:prog.funcs[f]? =some fn)(hn:fn.ntmps=nt)(hr:fn.results=rs)
 (hp:sC prog nt h0.length xJ Ki c (xI prog h0.length xJ rs.toList r h1) ⟨⟩ (pT args 0) h0) (hb:fn.body=some c:=by exact rfl) (hc:EL fn nt c args.length=true:=by kernel_rfl)
 (hle:h0.length≤h1.length:=by simp) (A5:an h0.length args=true:=by simp[an,aq]) (hbh:aH h0.length h0=true:=by simp[aH,aQ,an,aq,bj,az]):MSpec prog f args h0 r h1:=iV ae ak hf hb hn hr hc hle A5 hbh hp
theorem Cj {α:Type}{enc:α→List D}(eE:∀x,(enc x).length=2)(p:α→Bool)(l:List α)(g:Nat)(caps:List D)(hl:l.length≤1000000000)(hc:∀x∈l,af prog g (.agg (enc x)::caps) (.v (.bool (p x)))):
 af prog 179 [.sl 2 (l.map enc),.clo g caps] (.v (.int .i64 (cz p l))):=by
 refine pj func179 ntmps179 results179 ?_;refine am ?_<;>intros;refine bL ae ak (fun m e h=>∃k:Nat,k≤l.length∧(∀x∈l.take k,p x=false)∧m=l.length - k∧e=[(8,.d (.v (.int .i64 k))),(7,.d (.v (.int .i64 l.length))),(4,.d (.v (.int .i64 0))),(1,.d (.clo g caps)),(0,.d (.sl 2 (l.map enc)))]∧h=[]) _ _ _ ⟨0,XE _,by simp,rfl,rfl,rfl⟩ ?_ ?_
 ·exact wf (x:=[]) (hh:=rfl) (he:=⟨rfl,rfl,rfl,rfl,rfl,trivial⟩)
 ·rintro m e h ⟨k,hk,cg,rfl,rfl,rfl⟩ CL mO;by_cases hlt:k < l.length
  ·obtain⟨x,hx⟩:∃x,l[k]? =some x:=⟨_,Xk hlt⟩;have ew:(k:Int) < (l.length:Int):=by omega
   have cR:=wi k (by omega);have bR:=eE x;have g7:(enc x).take 2=enc x:=XN (by omega);have jL:=hc x (Xl hx);cases hp:p x with
   |false=>
    rw[hp]at jL;refine am ?_<;>intros;refine mO _ _ _ _ _ ?_ ⟨k+1,hlt,?_,rfl,rfl,rfl⟩ (wf (x:=[]) (hh:=rfl) (he:=⟨rfl,rfl,rfl,rfl,rfl,trivial⟩))
    ·omega
    ·intro y hy;rw[ag hx]at hy;rcases X3.1 hy with hy|hy
     ·exact cg y hy
     ·rw[Yc]at hy;rw[hy];exact hp
   |true=>
    rw[hp]at jL;have ll:cz p l=k:=fY hx hp cg;exact bc;all_goals rw[ll]
    all_goals exact ai.refl _
  ·obtain rfl:k=l.length:=by omega
   rw[Xt]at cg;refine am ?_<;>intros;all_goals rw[fZ cg]
   all_goals exact ai.refl _
theorem tE {α:Type}{enc:α→List D}(eE:∀x,(enc x).length=2)(p:α→Bool)(l:List α)(g:Nat)(caps:List D)(hl:l.length≤1000000000)(hc:∀x∈l,af prog g (.agg (enc x)::caps) (.v (.bool (p x)))):
 af prog 95 [.sl 2 (l.map enc),.clo g caps] (.v (.bool (l.any p))):=by
 have hi:=Cj eE p l g caps hl hc;have iy:=fO p l;refine pj func95 ntmps95 results95 ?_;exact bc;all_goals exact ai.refl _
theorem kr (a:Int):af prog 195 [.v (.int .i64 a)] (.v (.bool false)):=by
 have h:(a !=a)=false:=by simp
 refine pj func195 ntmps195 results195 ?_;exact bc;all_goals exact ai.refl _
theorem ml (a b:Int):af prog 113 [.v (.int .i64 a),.v (.int .i64 b)] (.v (.int .i64 (ez a b))):=by
 rcases Int.lt_trichotomy a b with h|h|h
 ·have h1:decide (a < b)=true:=by simpa using h
  have e:ez a b= -1:=by simp[ez,h]
  refine pj func113 ntmps113 results113 ?_;have z1z:=kr a;have z2z:=kr b;exact bc;all_goals(rw[e];exact ai.refl _)
 ·subst h;have e:ez a a=0:=by simp[ez]
  have h1:decide (a>a)=false:=by simp
  refine pj func113 ntmps113 results113 ?_;have z1z:=kr a;exact bc;all_goals(rw[e];exact ai.refl _)
 ·have h1:decide (a < b)=false:=by simp;omega
  have h2:decide (a>b)=true:=by simpa using h
  have e:ez a b=1:=by unfold ez;rw[if_neg (by omega),if_pos h]
  refine pj func113 ntmps113 results113 ?_;have z1z:=kr a;have z2z:=kr b;exact bc;all_goals(rw[e];exact ai.refl _)
theorem Ck:∀(h:List Chunk) (k:Nat),aG (h.map fun _=>Chunk.gone) k=if k < h.length then .gone else .none
 |[],_=>rfl
 |c::l,0=>rfl
 |c::l,k+1=>by simp only[Xm,aG,Ck l k,XA,Nat.add_lt_add_iff_right]
theorem vz {P:Program}{f:Nat}{args:List PV}{h0:List Chunk}{ds:List D}{r:D}(hp:af P f ds r)(A5:an h0.length args=true)(hbh:aH h0.length h0=true)(hv:cM (vw (aG h0)) args=some ds)(ht:∀k∈jq (tc (aG h0)) args,k < h0.length):MSpec P f args h0 (.d r) (h0.map fun _=> .gone):=by
 refine⟨hp.1,by simp,A5,hbh,fun X hP hn hm w c vs hr ly=>?_⟩;subst hP;have hf:=hr.freeze (X5 h0.length);obtain⟨q1,q2⟩:=eZ hv;have bA:cu (lB c (aG h0) (X5 h0.length)) w ds vs:=⟨by rw[←q1];exact ly.1,fun j d x hj hx=>by
  obtain⟨p,hp',w7⟩:=q2 j d hj;exact kM hr 6 w7 (fun k hk=>YR.2 (ht k (fN (Xl hp') k hk))) (ly.2 j p x hp' hx)⟩
 refine(hp.2 _ w vs (fun b hb=>hr.lt hb.1) (hr.ginv.keep ⟨XB _,fun _ _ _=>rfl,fun b _ hb=>hb.1⟩) bA).mono ?_;rintro e w' ⟨v,rfl,hv',hx⟩;refine⟨v,{c with M:=lB c (aG h0) (X5 h0.length)},rfl,.d _ _ hv',?_⟩;have hg:=hf.grow hx;have he:({bQ [] h0 with heap:=cH ((X5 h0.length).map fun k=>(k,.gone)) (bQ [] h0).heap}:FS)=bQ [] (h0.map fun _=> .gone):=by
  simp only[bQ,FS.mk.injEq,true_and];funext k;rw[mc,Ck];by_cases hk:k < h0.length
  ·rw[if_pos (YR.2 hk),if_pos hk]
  ·rw[if_neg (fun h=>hk (YR.1 h)),if_neg hk];exact mU h0 k (by omega)
 rw[he]at hg;exact hg
theorem Kx (p:PV):Wl p p:= .inl rfl
theorem yU:∀(l:List PV),ue l l
 |[]=>trivial
 |p::l=>⟨Kx p,yU l⟩
theorem Cl:∀{a b c d:List PV},ue a b→ue c d→ue (a++c) (b++d)
 |[],[],_,_,_,h=>h
 |[],_::_,_,_,h,_=>h.elim
 |_::_,[],_,_,h,_=>h.elim
 |_::_,_::_,_,_,⟨h1,h2⟩,h=>⟨h1,Cl h2 h⟩
theorem Cm:∀{a b:List PV},ue a b→a.length=b.length
 |[],[],_=>rfl
 |[],_::_,h=>h.elim
 |_::_,[],h=>h.elim
 |_::_,_::_,⟨_,h⟩=>by simp[Cm h]
theorem EN:∀{a b:List D},pU a b→ue (a.map .d) (b.map .d)
 |[],[],_=>trivial
 |[],_::_,h=>h.elim
 |_::_,[],h=>h.elim
 |_::_,_::_,⟨h1,h2⟩=>⟨.inr ⟨_,_,rfl,rfl,h1⟩,EN h2⟩
def uf:List (List PV)→List (List PV)→Prop
 |[],[]=>True
 |r::l,s::m=>ue r s∧uf l m
 |_,_=>False
theorem sy:∀(l:List (List PV)),uf l l
 |[]=>trivial
 |r::l=>⟨yU r,sy l⟩
theorem Cn:∀{a b c d:List (List PV)},uf a b→uf c d→uf (a++c) (b++d)
 |[],[],_,_,_,h=>h
 |[],_::_,_,_,h,_=>h.elim
 |_::_,[],_,_,h,_=>h.elim
 |_::_,_::_,_,_,⟨h1,h2⟩,h=>⟨h1,Cn h2 h⟩
theorem yV:∀{a b:List (List PV)},uf a b→ue a.flatten b.flatten
 |[],[],_=>trivial
 |[],_::_,h=>h.elim
 |_::_,[],h=>h.elim
 |_::_,_::_,⟨h1,h2⟩=>Cl h1 (yV h2)
theorem Co:∀{a b:List (List PV)},uf a b→a.length=b.length
 |[],[],_=>rfl
 |[],_::_,h=>h.elim
 |_::_,[],h=>h.elim
 |_::_,_::_,⟨_,h⟩=>by simp[Co h]
theorem Gh {sz:Nat}:∀{a b:List (List PV)},uf a b→(∀r∈a,r.length=sz)→∀r∈b,r.length=sz
 |[],[],_,_=>fun r h=>by simp at h
 |[],_::_,h,_=>h.elim
 |_::_,[],h,_=>h.elim
 |_::_,_::_,⟨h1,h2⟩,h=>fun r hr=>by
  rcases X7.1 hr with rfl|hr
  ·rw[←Cm h1];exact h _ (by simp)
  ·exact Gh h2 (fun r hr=>h r (by simp[hr])) r hr
theorem qV {A B:List (List D)}{r s:List D}(h:pU r s):uf (ab (A++r::B)) (ab (A++s::B)):=by
 simp only[ab,Xo,Xm];exact Cn (sy _) ⟨EN h,sy _⟩
theorem kN {α:Type}{enc:α→List D}(h:∀x,(enc x).all D.one=true)(l:List α):∀r∈ab (l.map enc),∀d∈r,d.one=true:=fun r hr d hd=>by
 obtain⟨q,hq,rfl⟩:=iB hr;obtain⟨x,-,rfl⟩:=XQ.1 hq;obtain⟨y,hy,rfl⟩:=XQ.1 hd;exact XC.1 (h x) y hy
theorem RealC.row_le {X:Cfg}{e:cw}{h:List Chunk}{a:Act}{w:World}{c:Cx}(hr:RealC X (bQ e h) a w c){k E sz g:Nat}{rows rows':List (List PV)}(hk:aG h k= .row E sz g rows)(hlt:k < h.length)(hle:uf rows rows')(h1:∀r∈rows',∀d∈r,d.one=true):
 RealC X (bQ e (bw h k (.row E sz g rows'))) a w c:=by
 have hh:∀k',(bQ e (bw h k (.row E sz g rows'))).heap k'=if k'=k then .row E sz g rows' else (bQ e h).heap k':=fun k'=>gL (p' hlt) k';have hb:∀k',c.block k' ((bQ e (bw h k (.row E sz g rows'))).heap k')=c.block k' ((bQ e h).heap k'):=by
  intro k';rw[hh];split
  ·rename_i he;subst he;show _=c.block k' (aG h k');rw[hk];rfl
  ·rfl
 refine⟨hr.size,hr.defers,hr.ext,hr.inv,hr.fresh,fun b=>?_,fun k' b G8=>?_,fun k' k'' b h1 h2=>?_,hr.env,fun k'=>?_,hr.lent⟩
 ·rw[hr.mu b];simp only[hb]
 ·rw[hb]at G8;exact hr.new k' b G8
 ·rw[hb]at h1 h2;exact hr.apart k' k'' b h1 h2
 ·rw[hh];split
  ·rename_i he;subst he;have a9:=hr.chunk k';rw[show (bQ e h).heap k'=_ from hk]at a9;cases a9 with
   |row _ _ _ _ v xs hv da DW cT eS hg=>
    exact .row E sz g rows' v xs hv (by rw[←Co hle];exact da) (qS (yV hle) DW) (Gh hle cT) h1 hg
  ·exact hr.chunk k'
theorem tF {P:Program}{n m:Nat}{e:cw}{h:List Chunk}(k:Nat){E sz g:Nat}{rows rows':List (List PV)}(hk:aG h k= .row E sz g rows)(hlt:k < h.length)(hle:uf rows rows')(h1:∀r∈rows',∀d∈r,d.one=true):eA P n m e h e (bw h k (.row E sz g rows')):=
 fun X _ _ _ a w ⟨c,hc⟩=>⟨c,hc.row_le hk hlt hle h1⟩
theorem MSpec.leh {P:Program}{f:Nat}{args:List PV}{E sz g:Nat}{rows rows':List (List PV)}{r:PV}{h1:List Chunk}(hM:MSpec P f args [.row E sz g rows'] r h1)(hle:uf rows rows')(ho:∀r∈rows',∀d∈r,d.one=true)(hb:cF 1 rows=true):MSpec P f args [.row E sz g rows] r h1:=
 ⟨hM.fn,hM.le,hM.ba,by simp only[XA,XZ,aH,aQ,XG,hb,Yp],fun X hP hn hm w c vs hr ly=>hM.run X hP hn hm w c vs (hr.row_le (k:=0) rfl (by simp) hle ho) ly⟩
theorem vA {α:Type}{enc:α→List D}(eE:∀x,(enc x).length=3)(p:α→Bool)(l:List α)(g:Nat)(caps:List D)(hl:l.length≤1000000000)(hc:∀x∈l,af prog g (.agg (enc x)::caps) (.v (.bool (p x)))):
 af prog 143 [.sl 3 (l.map enc),.clo g caps] (.v (.int .i64 (cz p l))):=by
 refine pj func143 ntmps143 results143 ?_;refine am ?_<;>intros;refine bL ae ak (fun m e h=>∃k:Nat,k≤l.length∧(∀x∈l.take k,p x=false)∧m=l.length - k∧e=[(8,.d (.v (.int .i64 k))),(7,.d (.v (.int .i64 l.length))),(4,.d (.v (.int .i64 0))),(1,.d (.clo g caps)),(0,.d (.sl 3 (l.map enc)))]∧h=[]) _ _ _ ⟨0,XE _,by simp,rfl,rfl,rfl⟩ ?_ ?_
 ·exact wf (x:=[]) (hh:=rfl) (he:=⟨rfl,rfl,rfl,rfl,rfl,trivial⟩)
 ·rintro m e h ⟨k,hk,cg,rfl,rfl,rfl⟩ CL mO;by_cases hlt:k < l.length
  ·obtain⟨x,hx⟩:∃x,l[k]? =some x:=⟨_,Xk hlt⟩;have ew:(k:Int) < (l.length:Int):=by omega
   have cR:=wi k (by omega);have bR:=eE x;have g7:(enc x).take 3=enc x:=XN (by omega);have jL:=hc x (Xl hx);cases hp:p x with
   |false=>
    rw[hp]at jL;refine am ?_<;>intros;refine mO _ _ _ _ _ ?_ ⟨k+1,hlt,?_,rfl,rfl,rfl⟩ (wf (x:=[]) (hh:=rfl) (he:=⟨rfl,rfl,rfl,rfl,rfl,trivial⟩))
    ·omega
    ·intro y hy;rw[ag hx]at hy;rcases X3.1 hy with hy|hy
     ·exact cg y hy
     ·rw[Yc]at hy;rw[hy];exact hp
   |true=>
    rw[hp]at jL;have ll:cz p l=k:=fY hx hp cg;exact bc;all_goals rw[ll]
    all_goals exact ai.refl _
  ·obtain rfl:k=l.length:=by omega
   rw[Xt]at cg;refine am ?_<;>intros;all_goals rw[fZ cg]
   all_goals exact ai.refl _
theorem mX {α:Type}{enc:α→List D}(eE:∀x,(enc x).length=3)(p:α→Bool)(l:List α)(g:Nat)(caps:List D)(hl:l.length≤1000000000)(hc:∀x∈l,af prog g (.agg (enc x)::caps) (.v (.bool (p x)))):
 af prog 209 [.sl 3 (l.map enc),.clo g caps] (.v (.bool (l.any p))):=by
 have hi:=vA eE p l g caps hl hc;have iy:=fO p l;refine pj func209 ntmps209 results209 ?_;exact bc;all_goals exact ai.refl _
theorem vB {α:Type}{enc:α→List D}(eE:∀x,(enc x).length=4)(p:α→Bool)(l:List α)(g:Nat)(caps:List D)(hl:l.length≤1000000000)(hc:∀x∈l,af prog g (.agg (enc x)::caps) (.v (.bool (p x)))):
 af prog 213 [.sl 4 (l.map enc),.clo g caps] (.v (.int .i64 (cz p l))):=by
 refine pj func213 ntmps213 results213 ?_;refine am ?_<;>intros;refine bL ae ak (fun m e h=>∃k:Nat,k≤l.length∧(∀x∈l.take k,p x=false)∧m=l.length - k∧e=[(8,.d (.v (.int .i64 k))),(7,.d (.v (.int .i64 l.length))),(4,.d (.v (.int .i64 0))),(1,.d (.clo g caps)),(0,.d (.sl 4 (l.map enc)))]∧h=[]) _ _ _ ⟨0,XE _,by simp,rfl,rfl,rfl⟩ ?_ ?_
 ·exact wf (x:=[]) (hh:=rfl) (he:=⟨rfl,rfl,rfl,rfl,rfl,trivial⟩)
 ·rintro m e h ⟨k,hk,cg,rfl,rfl,rfl⟩ CL mO;by_cases hlt:k < l.length
  ·obtain⟨x,hx⟩:∃x,l[k]? =some x:=⟨_,Xk hlt⟩;have ew:(k:Int) < (l.length:Int):=by omega
   have cR:=wi k (by omega);have bR:=eE x;have g7:(enc x).take 4=enc x:=XN (by omega);have jL:=hc x (Xl hx);cases hp:p x with
   |false=>
    rw[hp]at jL;refine am ?_<;>intros;refine mO _ _ _ _ _ ?_ ⟨k+1,hlt,?_,rfl,rfl,rfl⟩ (wf (x:=[]) (hh:=rfl) (he:=⟨rfl,rfl,rfl,rfl,rfl,trivial⟩))
    ·omega
    ·intro y hy;rw[ag hx]at hy;rcases X3.1 hy with hy|hy
     ·exact cg y hy
     ·rw[Yc]at hy;rw[hy];exact hp
   |true=>
    rw[hp]at jL;have ll:cz p l=k:=fY hx hp cg;exact bc;all_goals rw[ll]
    all_goals exact ai.refl _
  ·obtain rfl:k=l.length:=by omega
   rw[Xt]at cg;refine am ?_<;>intros;all_goals rw[fZ cg]
   all_goals exact ai.refl _
theorem vC {α:Type}{enc:α→List D}(eE:∀x,(enc x).length=4)(p:α→Bool)(l:List α)(g:Nat)(caps:List D)(hl:l.length≤1000000000)(hc:∀x∈l,af prog g (.agg (enc x)::caps) (.v (.bool (p x)))):
 af prog 145 [.sl 4 (l.map enc),.clo g caps] (.v (.bool (l.any p))):=by
 have hi:=vB eE p l g caps hl hc;have iy:=fO p l;refine pj func145 ntmps145 results145 ?_;exact bc;all_goals exact ai.refl _
theorem yW {α:Type}{enc:α→List D}(eE:∀x,(enc x).length=2)(p:α→Bool)(l:List α)(g:Nat)(caps:List D)(hl:l.length≤1000000000)(hc:∀x∈l,af prog g (.agg (enc x)::caps) (.v (.bool (p x)))):
 af prog 217 [.sl 2 (l.map enc),.clo g caps] (.v (.int .i64 (cz p l))):=by
 refine pj func217 ntmps217 results217 ?_;refine am ?_<;>intros;refine bL ae ak (fun m e h=>∃k:Nat,k≤l.length∧(∀x∈l.take k,p x=false)∧m=l.length - k∧e=[(8,.d (.v (.int .i64 k))),(7,.d (.v (.int .i64 l.length))),(4,.d (.v (.int .i64 0))),(1,.d (.clo g caps)),(0,.d (.sl 2 (l.map enc)))]∧h=[]) _ _ _ ⟨0,XE _,by simp,rfl,rfl,rfl⟩ ?_ ?_
 ·exact wf (x:=[]) (hh:=rfl) (he:=⟨rfl,rfl,rfl,rfl,rfl,trivial⟩)
 ·rintro m e h ⟨k,hk,cg,rfl,rfl,rfl⟩ CL mO;by_cases hlt:k < l.length
  ·obtain⟨x,hx⟩:∃x,l[k]? =some x:=⟨_,Xk hlt⟩;have ew:(k:Int) < (l.length:Int):=by omega
   have cR:=wi k (by omega);have bR:=eE x;have g7:(enc x).take 2=enc x:=XN (by omega);have jL:=hc x (Xl hx);cases hp:p x with
   |false=>
    rw[hp]at jL;refine am ?_<;>intros;refine mO _ _ _ _ _ ?_ ⟨k+1,hlt,?_,rfl,rfl,rfl⟩ (wf (x:=[]) (hh:=rfl) (he:=⟨rfl,rfl,rfl,rfl,rfl,trivial⟩))
    ·omega
    ·intro y hy;rw[ag hx]at hy;rcases X3.1 hy with hy|hy
     ·exact cg y hy
     ·rw[Yc]at hy;rw[hy];exact hp
   |true=>
    rw[hp]at jL;have ll:cz p l=k:=fY hx hp cg;exact bc;all_goals rw[ll]
    all_goals exact ai.refl _
  ·obtain rfl:k=l.length:=by omega
   rw[Xt]at cg;refine am ?_<;>intros;all_goals rw[fZ cg]
   all_goals exact ai.refl _
theorem H0 {α:Type}{enc:α→List D}(eE:∀x,(enc x).length=2)(p:α→Bool)(l:List α)(g:Nat)(caps:List D)(hl:l.length≤1000000000)(hc:∀x∈l,af prog g (.agg (enc x)::caps) (.v (.bool (p x)))):
 af prog 230 [.sl 2 (l.map enc),.clo g caps] (.v (.bool (l.any p))):=by
 have hi:=yW eE p l g caps hl hc;have iy:=fO p l;refine pj func230 ntmps230 results230 ?_;exact bc;all_goals exact ai.refl _
def yX:D→Value
 | .v x=>x
 |_=>undef
def PZ:D→Value
 | .v x=>x
 | .agg l=> .agg (l.map yX).toArray
 |_=>undef
def H1:D→Value
 | .v x=>x
 | .agg l=> .agg (l.map yX).toArray
 | .tup l=> .tuple (l.map PZ).toArray
 |_=>undef
theorem qW {vs:List Value}{ds:List D}{f:D→Value}(hl:ds.length=vs.length)(h:∀(j:Nat) (d:D) (x:Value),ds[j]? =some d→vs[j]? =some x→x=f d):vs=ds.map f:=by
 apply Yj;intro j;rw[Xz];cases hd:ds[j]? with
 |none=>
  have:ds.length≤j:=by simpa using hd
  rw[XT (by omega)];rfl
 |some d=>
  have hlt:j < vs.length:=by rw[←hl];exact(Xn.1 hd).1
  rw[Xk hlt,h j d _ hd (Xk hlt)];rfl
theorem Gi {M:Nat→Prop}{w:World}{d:D}{v:Value}(h:RepD M w d v)(hf:d.isV=true):v=yX d:=by
 cases d<;>simp[D.isV]at hf;cases h;rfl
theorem Ky {M:Nat→Prop}{w:World}{d:D}{v:Value}(h:RepD M w d v)(hf:d.flat=true):v=H1 d:=by
 cases h with
 |v=>rfl
 |agg cells vs hl h1 bA=>
  simp only[D.flat,XC]at hf;rw[qW (f:=yX) hl fun j d x hj hx=>Gi (bA j d x hj hx) (hf d (Xl hj))];rfl
 |tup ds vs hl bA=>
  simp only[D.flat,XC]at hf;rw[qW (f:=PZ) hl fun j d x hj hx=>?_]
  ·rfl
  ·have h0:=bA j d x hj hx;have h1:=hf d (Xl hj);cases h0 with
   |v=>rfl
   |agg cells us hl' h1' oO=>
    simp only[XC]at h1;rw[qW (f:=yX) hl' fun j d x hj hx=>Gi (oO j d x hj hx) (h1 d (Xl hj))];rfl
   |_=>simp at h1
 |_=>simp[D.flat]at hf
def D.aggOK:D→Bool
 | .agg l=>l.all D.one
 | .tup l=>l.all fun d=>match d with| .agg l=>l.all D.one|_=>true
 |_=>true
theorem Gj {M:Nat→Prop}{w:World}(ds:List D)(hf:∀d∈ds,d.isV=true):∀(j:Nat) (d:D) (x:Value),ds[j]? =some d→(ds.map yX)[j]? =some x→RepD M w d x:=by
 intro j d x hj hx;rw[Xz,hj]at hx;cases hx;have:=hf d (Xl hj);cases d<;>simp[D.isV]at this;exact .v _
theorem Ar {M:Nat→Prop}{w:World}{d:D}(hf:d.flat=true)(h1:d.aggOK=true):RepD M w d (H1 d):=by
 cases d with
 |v x=>exact .v x
 |agg l=>
  simp only[D.flat,XC]at hf;simp only[D.aggOK,XC]at h1;exact .agg l _ (by simp) h1 (Gj l hf)
 |tup l=>
  simp only[D.flat,XC]at hf;simp only[D.aggOK,XC]at h1;refine .tup l _ (by simp) fun j d x hj hx=>?_;rw[Xz,hj]at hx;cases hx;have h2:=hf d (Xl hj);have h3:=h1 d (Xl hj);cases d with
  |v x=>exact .v x
  |agg l'=>
   simp only[XC]at h2 h3;exact .agg l' _ (by simp) h3 (Gj l' h2)
  |_=>simp at h2
 |_=>simp[D.flat]at hf
theorem eT {P:Program}{f:Nat}{ds:List D}{r:D}(hn:xB P f)(hf:∀d∈ds,d.flat=true)(hr:r.flat=true)(r5:r.aggOK=true)(h:∀w,Calls P f (ds.map H1).toArray w fun e w'=>e= .returned (H1 r)∧dA w w'):af P f ds r:=by
 refine⟨hn,fun M w vs _ _ fA=>?_⟩;rw[qW (f:=H1) fA.1 fun j d x hj hx=>Ky (fA.2 j d x hj hx) (hf d (Xl hj))];exact(h w).mono fun e w' ⟨he,hx⟩=>⟨H1 r,he,Ar hr r5,hx⟩
theorem fD {M:Nat→Prop}{w:World}{d:D}{ds:List D}{vs:List Value}(h:cu M w (d::ds) vs):∃v us,vs=v::us∧RepD M w d v∧cu M w ds us:=by
 cases vs with
 |nil=>have:=h.1;simp at this
 |cons v us=>exact⟨v,us,rfl,h.2 0 d v rfl rfl,⟨by simpa using h.1,fun j d x hj hx=>h.2 (j+1) d x (by simpa using hj) (by simpa using hx)⟩⟩
theorem mn {M:Nat→Prop}{w:World}{vs:List Value}(h:cu M w [] vs):vs=[]:=by
 cases vs with
 |nil=>rfl
 |cons v us=>have:=h.1;simp at this
theorem Kz {M:Nat→Prop}{w:World}{ds:List D}{v:Value}(h:RepD M w (.agg ds) v):∃vs:List Value,v= .agg vs.toArray∧cu M w ds vs:=by
 cases h with
 |agg _ vs hl h1 bA=>exact⟨vs,rfl,hl,bA⟩
theorem sD {M:Nat→Prop}{w:World}{x v:Value}(h:RepD M w (.v x) v):v=x:=by cases h;rfl
theorem Oe {M:Nat→Prop}{w:World}{us:List Pfx}{v:Value}(h:RepD M w (.sl 2 (us.map aN)) v):∃ao cap,v= .slice ao us.length cap∧Sl (fun b=>¬M b) w 2 cQ ao cap us:=by
 generalize hr:us.map aN=rows at h;have hl:us.length=rows.length:=by rw[←hr];simp
 cases h with
 |nil _ ao cap hm=>
  have:us=[]:=X9 (by simpa using hl);subst this;exact⟨ao,cap,rfl,⟨XE _,hm,fun i hi=>absurd hi (YJ _)⟩⟩
 |sl _ _ b off cap f hM hb hc hm hr' h1 dC bA=>
  refine⟨_,cap,by rw[hl],⟨by omega,hm,fun i hi=>⟨b,off,[.int .i64 us[i].at_,.int .i64 us[i].len],rfl,hM,rfl,rfl,fun j hj=>?_⟩⟩⟩;have bZ:rows[i]? =some (aN us[i]):=by rw[←hr,Xz,Xk hi];rfl
  have hcj:=dC i j (by omega) hj;rw[hcj];match j,hj with
  |0,_=>rw[sD (bA i 0 _ _ bZ rfl)];rfl
  |1,_=>rw[sD (bA i 1 _ _ bZ rfl)];rfl
theorem As {M:Nat→Prop}{w:World}{root:Pfx}{us:List Pfx}{v:Value}(h:RepD M w (.agg (EI root us)) v):∃uo cap,v= .agg #[.int .i64 root.at_,.int .i64 root.len,.slice uo us.length cap]∧Sl (fun b=>¬M b) w 2 cQ uo cap us:=by
 obtain⟨vs,rfl,DQ⟩:=Kz h;obtain⟨a,vs,rfl,ha,DQ⟩:=fD DQ;obtain⟨b,vs,rfl,hb,DQ⟩:=fD DQ;obtain⟨c,vs,rfl,hc,DQ⟩:=fD DQ;rw[mn DQ,sD ha,sD hb];obtain⟨ao,cap,rfl,hs⟩:=Oe hc;exact⟨ao,cap,rfl,hs⟩
section
open Go.Proofs
def fE (n lo hi:Int):Bool:=decide (lo≤n)&&decide (n≤hi)
theorem mY (n lo hi:Int)(w:World):
 Calls prog 75 #[.int .i64 n,.int .i64 lo,.int .i64 hi] w fun e w'=>e= .returned (.bool (fE n lo hi))∧w=w':=by
 by_cases h1:lo≤n
 ·by_cases h2:n≤hi
  ·have hr:fE n lo hi=true:=by simp[fE,h1,h2]
   replace hr:=Xj hr;go_enter func75,ntmps75
   go_wp2_with fail
   go_ret
   first|exact⟨dn hr.out.symm,rfl⟩|exact⟨rfl,rfl⟩
  ·have hr:fE n lo hi=false:=by simp[fE,h2]
   replace hr:=Xj hr;go_enter func75,ntmps75
   go_wp2_with fail
   go_ret
   first|exact⟨dn hr.out.symm,rfl⟩|exact⟨rfl,rfl⟩
 ·have hr:fE n lo hi=false:=by simp[fE,h1]
  replace hr:=Xj hr;go_enter func75,ntmps75
  go_wp2_with fail
  go_ret
  first|exact⟨dn hr.out.symm,rfl⟩|exact⟨rfl,rfl⟩
end
section
open Go.Proofs
def eG (n:Int):Int:=2 ^ (16 - n).toNat
theorem fd {n:Int}(h0:0≤n):1≤eG n∧eG n≤65536:=by have:=vr n h0;unfold eG;omega
theorem p3 (n:Int)(w:World)(h0:0≤n)(h1:n≤16):
 Calls prog 240 #[.int .i64 n] w fun e w'=>e= .returned (.int .i64 (eG n))∧w=w':=by
 have hp:=vr n h0;go_enter func240,ntmps240
 go_wp2
 go_ret
 exact⟨rfl,rfl⟩
theorem ug (a l:Int)(w:World):
 Calls prog 239 #[.agg #[.int .i64 a,.int .i64 l]] w fun e w'=>e= .returned (.int .i64 (chk a l))∧dA w w':=by
 by_cases hl:0≤l∧l≤16
 ·have e1:fE l 0 16=true:=by simp[fE,hl]
  by_cases ha:0≤a∧a≤65535
  ·have e2:fE a 0 65535=true:=by simp[fE,ha]
   have hm:=vr l hl.1;obtain⟨⟨g1,g2⟩,g3,g4⟩:=And.intro hl ha;clear hl ha;obtain⟨z1,z2⟩:=fd g1;have z3:¬eG l=0:=by omega
   have hc:=Xj (EH g1 g2 g3 g4);go_enter func239,ntmps239
   go_wp2_with (first|(go_at_call 75;refine(mY _ _ _ _).mono ?_;rintro e w' ⟨rfl,rfl⟩))
   refine dZ (by kernel_rfl) (by kernel_rfl) ?_;repeat(first|((first|refine j9 rfl rfl rfl (by with_reducible rfl) ?_|refine ke rfl rfl rfl (by with_reducible rfl) ?_|refine kf rfl rfl rfl (by with_reducible rfl) ?_);simp only[Act.put,Xp,Xu,Xx])|(apply dY;(first|exact bx rfl|exact bD rfl rfl rfl (by with_reducible rfl));intro wq cO R hR;(have ei:=(aJ cO).1;(try simp only[Xr,aa,Xw,Xs]at ei);go_simp;first|exact hR|((go_at_call 240;exact pX cO (p3 _ _ g1 g2) hR)));simp only[Act.put,Xp,Xu,Xx]))
   refine wpQuiet_nil ?_;intro w1 cl;obtain⟨cm,cr⟩:=aJ cl;have cv:=br cl;(try simp only[Xr,aa,Xw,Xs]at cm cr cv)
   go_wp2_with fail
   ·go_ret
    rename_i h;refine⟨cf ?_,?_⟩
    ·rw[hc.out,if_neg (by rw[Int.tmod_eq_emod_of_nonneg g3]at h;simpa[eG]using h)]
    ·refine Bel.bel (B:=_) ?_;(repeat(first|with_reducible assumption|with_reducible exact Bel.refl _|with_reducible refine Bel.alloc ?_ _|with_reducible refine Bel.drewN ?_ _|with_reducible refine Bel.drew ?_|(with_reducible refine Bel.setCell0 ?_ ?_ _;rotate_left;(first|omega|(simp;done)|(simp;omega)))|(with_reducible refine Bel.setCell ?_ (p:=_) ?_ _;rotate_left;(first|(simp;done)|omega|(simp;omega)))|refine Bel.call ?_ (by assumption)|(refine EX.bel ?_ (by assumption) ?_;rotate_left;(first|omega|(simp;omega)))))
   ·go_ret
    rename_i h;refine⟨cf ?_,?_⟩
    ·rw[hc.out,if_pos (by rw[Int.tmod_eq_emod_of_nonneg g3]at h;simpa[eG]using h)]
    ·refine Bel.bel (B:=_) ?_;(repeat(first|with_reducible assumption|with_reducible exact Bel.refl _|with_reducible refine Bel.alloc ?_ _|with_reducible refine Bel.drewN ?_ _|with_reducible refine Bel.drew ?_|(with_reducible refine Bel.setCell0 ?_ ?_ _;rotate_left;(first|omega|(simp;done)|(simp;omega)))|(with_reducible refine Bel.setCell ?_ (p:=_) ?_ _;rotate_left;(first|(simp;done)|omega|(simp;omega)))|refine Bel.call ?_ (by assumption)|(refine EX.bel ?_ (by assumption) ?_;rotate_left;(first|omega|(simp;omega)))))
  ·have e2:fE a 0 65535=false:=by simp[fE];omega
   have hc:=Xj (Km (a:=a) (l:=l) (by omega));clear hl ha;go_enter func239,ntmps239
   go_wp2_with (first|(go_at_call 75;refine(mY _ _ _ _).mono ?_;rintro e w' ⟨rfl,rfl⟩))
   go_ret
   refine⟨cf hc.out.symm,?_⟩;refine Bel.bel (B:=_) ?_;(repeat(first|with_reducible assumption|with_reducible exact Bel.refl _|with_reducible refine Bel.alloc ?_ _|with_reducible refine Bel.drewN ?_ _|with_reducible refine Bel.drew ?_|(with_reducible refine Bel.setCell0 ?_ ?_ _;rotate_left;(first|omega|(simp;done)|(simp;omega)))|(with_reducible refine Bel.setCell ?_ (p:=_) ?_ _;rotate_left;(first|(simp;done)|omega|(simp;omega)))|refine Bel.call ?_ (by assumption)|(refine EX.bel ?_ (by assumption) ?_;rotate_left;(first|omega|(simp;omega)))))
 ·have e1:fE l 0 16=false:=by simp[fE];omega
  have hc:=Xj (Km (a:=a) (l:=l) (by omega));clear hl;go_enter func239,ntmps239
  go_wp2_with (first|(go_at_call 75;refine(mY _ _ _ _).mono ?_;rintro e w' ⟨rfl,rfl⟩))
  go_ret
  refine⟨cf hc.out.symm,?_⟩;refine Bel.bel (B:=_) ?_;(repeat(first|with_reducible assumption|with_reducible exact Bel.refl _|with_reducible refine Bel.alloc ?_ _|with_reducible refine Bel.drewN ?_ _|with_reducible refine Bel.drew ?_|(with_reducible refine Bel.setCell0 ?_ ?_ _;rotate_left;(first|omega|(simp;done)|(simp;omega)))|(with_reducible refine Bel.setCell ?_ (p:=_) ?_ _;rotate_left;(first|(simp;done)|omega|(simp;omega)))|refine Bel.call ?_ (by assumption)|(refine EX.bel ?_ (by assumption) ?_;rotate_left;(first|omega|(simp;omega)))))
def kO (a l:Int):Int:=a+eG l - 1
def bE (a l:Int):Bool:=chk a l==0
def kP (a l x:Int):Bool:=bE a l&&fE x a (kO a l)
def xL (a l b m:Int):Bool:=bE a l&&bE b m&&kP b m a&&kP b m (kO a l)
def nx (a l b m:Int):Bool:=bE a l&&bE b m&&decide (a≤kO b m)&&decide (b≤kO a l)
theorem dN {a l:Int}(h:bE a l=true):0≤l∧l≤16∧0≤a∧a≤65535∧a % eG l=0:=by
 have h0:chk a l=0:=by simpa[bE]using h
 unfold chk at h0;split at h0
 ·omega
 ·rename_i h1;split at h0
  ·rename_i h2;exact⟨by omega,by omega,by omega,by omega,h2⟩
  ·omega
theorem d4 (a l:Int)(w:World):
 Calls prog 189 #[.agg #[.int .i64 a,.int .i64 l]] w fun e w'=>e= .returned (.bool (bE a l))∧dA w w':=by
 go_enter func189,ntmps189
 go_wp2_with fail
 refine(ug a l _).mono ?_;rintro e w1 ⟨rfl,cl⟩;obtain⟨cm,cr⟩:=aJ cl;have cv:=br cl;(try simp only[Xr,aa,Xw,Xs]at cm cr cv)
 go_wp2_with fail
 go_ret
 refine⟨dn rfl,Bel.bel (B:=_) ?_⟩;(repeat(first|with_reducible assumption|with_reducible exact Bel.refl _|with_reducible refine Bel.alloc ?_ _|with_reducible refine Bel.drewN ?_ _|with_reducible refine Bel.drew ?_|(with_reducible refine Bel.setCell0 ?_ ?_ _;rotate_left;(first|omega|(simp;done)|(simp;omega)))|(with_reducible refine Bel.setCell ?_ (p:=_) ?_ _;rotate_left;(first|(simp;done)|omega|(simp;omega)))|refine Bel.call ?_ (by assumption)|(refine EX.bel ?_ (by assumption) ?_;rotate_left;(first|omega|(simp;omega)))))
theorem jQ (a l:Int)(w:World)(h:bE a l=true):
 Calls prog 190 #[.agg #[.int .i64 a,.int .i64 l]] w fun e w'=>e= .returned (.int .i64 (kO a l))∧dA w w':=by
 obtain⟨g1,g2,g3,g4,-⟩:=dN h;obtain⟨z1,z2⟩:=fd g1;clear h;go_enter func190,ntmps190
 go_wp2_with fail
 refine dZ (by kernel_rfl) (by kernel_rfl) ?_;repeat(first|((first|refine j9 rfl rfl rfl (by with_reducible rfl) ?_|refine ke rfl rfl rfl (by with_reducible rfl) ?_|refine kf rfl rfl rfl (by with_reducible rfl) ?_);simp only[Act.put,Xp,Xu,Xx])|(apply dY;(first|exact bx rfl|exact bD rfl rfl rfl (by with_reducible rfl));intro wq cO R hR;(have ei:=(aJ cO).1;(try simp only[Xr,aa,Xw,Xs]at ei);go_simp;first|exact hR|((go_at_call 240;exact pX cO (p3 _ _ g1 g2) hR)));simp only[Act.put,Xp,Xu,Xx]))
 refine wpQuiet_nil ?_;intro w1 cl;obtain⟨cm,cr⟩:=aJ cl;have cv:=br cl;(try simp only[Xr,aa,Xw,Xs]at cm cr cv)
 go_wp2_with fail
 go_ret
 refine⟨cf (by simp only[IntKind.wrap_i64];unfold kO;omega),Bel.bel (B:=_) ?_⟩;(repeat(first|with_reducible assumption|with_reducible exact Bel.refl _|with_reducible refine Bel.alloc ?_ _|with_reducible refine Bel.drewN ?_ _|with_reducible refine Bel.drew ?_|(with_reducible refine Bel.setCell0 ?_ ?_ _;rotate_left;(first|omega|(simp;done)|(simp;omega)))|(with_reducible refine Bel.setCell ?_ (p:=_) ?_ _;rotate_left;(first|(simp;done)|omega|(simp;omega)))|refine Bel.call ?_ (by assumption)|(refine EX.bel ?_ (by assumption) ?_;rotate_left;(first|omega|(simp;omega)))))
theorem og (a l x:Int)(w:World):
 Calls prog 224 #[.agg #[.int .i64 a,.int .i64 l],.int .i64 x] w fun e w'=>e= .returned (.bool (kP a l x))∧dA w w':=by
 by_cases h:bE a l=true
 ·have hv:kP a l x=fE x a (kO a l):=by simp[kP,h]
  rw[hv];go_enter func224,ntmps224
  go_wp2_with fail
  refine dZ (by kernel_rfl) (by kernel_rfl) ?_;repeat(first|((first|refine j9 rfl rfl rfl (by with_reducible rfl) ?_|refine ke rfl rfl rfl (by with_reducible rfl) ?_|refine kf rfl rfl rfl (by with_reducible rfl) ?_);simp only[Act.put,Xp,Xu,Xx])|(apply dY;(first|exact bx rfl|exact bD rfl rfl rfl (by with_reducible rfl));intro wq cO R hR;(have ei:=(aJ cO).1;(try simp only[Xr,aa,Xw,Xs]at ei);go_simp;first|exact hR|(first|(go_at_call 189;exact jO cO (d4 _ _ _) hR)|(go_at_call 190;exact jO cO (jQ _ _ _ h) hR)|(go_at_call 75;exact pX cO (mY _ _ _ _) hR)));simp only[Act.put,Xp,Xu,Xx]))
  refine wpQuiet_nil ?_;intro w1 cl;obtain⟨cm,cr⟩:=aJ cl;have cv:=br cl;(try simp only[Xr,aa,Xw,Xs]at cm cr cv)
  go_wp2_with fail
  go_ret
  refine⟨dn rfl,Bel.bel (B:=_) ?_⟩;(repeat(first|with_reducible assumption|with_reducible exact Bel.refl _|with_reducible refine Bel.alloc ?_ _|with_reducible refine Bel.drewN ?_ _|with_reducible refine Bel.drew ?_|(with_reducible refine Bel.setCell0 ?_ ?_ _;rotate_left;(first|omega|(simp;done)|(simp;omega)))|(with_reducible refine Bel.setCell ?_ (p:=_) ?_ _;rotate_left;(first|(simp;done)|omega|(simp;omega)))|refine Bel.call ?_ (by assumption)|(refine EX.bel ?_ (by assumption) ?_;rotate_left;(first|omega|(simp;omega)))))
 ·have h:=(ZI _).mp h;have hv:kP a l x=false:=by simp[kP,h]
  rw[hv];go_enter func224,ntmps224
  go_wp2_with fail
  refine dZ (by kernel_rfl) (by kernel_rfl) ?_;repeat(first|((first|refine j9 rfl rfl rfl (by with_reducible rfl) ?_|refine ke rfl rfl rfl (by with_reducible rfl) ?_|refine kf rfl rfl rfl (by with_reducible rfl) ?_);simp only[Act.put,Xp,Xu,Xx])|(apply dY;(first|exact bx rfl|exact bD rfl rfl rfl (by with_reducible rfl));intro wq cO R hR;(have ei:=(aJ cO).1;(try simp only[Xr,aa,Xw,Xs]at ei);go_simp;first|exact hR|(first|(go_at_call 189;exact jO cO (d4 _ _ _) hR)));simp only[Act.put,Xp,Xu,Xx]))
  refine wpQuiet_nil ?_;intro w1 cl;obtain⟨cm,cr⟩:=aJ cl;have cv:=br cl;(try simp only[Xr,aa,Xw,Xs]at cm cr cv)
  go_wp2_with fail
  go_ret
  refine⟨dn rfl,Bel.bel (B:=_) ?_⟩;(repeat(first|with_reducible assumption|with_reducible exact Bel.refl _|with_reducible refine Bel.alloc ?_ _|with_reducible refine Bel.drewN ?_ _|with_reducible refine Bel.drew ?_|(with_reducible refine Bel.setCell0 ?_ ?_ _;rotate_left;(first|omega|(simp;done)|(simp;omega)))|(with_reducible refine Bel.setCell ?_ (p:=_) ?_ _;rotate_left;(first|(simp;done)|omega|(simp;omega)))|refine Bel.call ?_ (by assumption)|(refine EX.bel ?_ (by assumption) ?_;rotate_left;(first|omega|(simp;omega)))))
theorem qX (a l b m:Int)(w:World):
 Calls prog 169 #[.agg #[.int .i64 a,.int .i64 l],.agg #[.int .i64 b,.int .i64 m]] w fun e w'=>e= .returned (.bool (xL a l b m))∧dA w w':=by
 cases hA:bE a l
 case false=>
  go_enter func169,ntmps169
  go_wp2_with fail
  refine dZ (by kernel_rfl) (by kernel_rfl) ?_;repeat(first|((first|refine j9 rfl rfl rfl (by with_reducible rfl) ?_|refine ke rfl rfl rfl (by with_reducible rfl) ?_|refine kf rfl rfl rfl (by with_reducible rfl) ?_);simp only[Act.put,Xp,Xu,Xx])|(apply dY;(first|exact bx rfl|exact bD rfl rfl rfl (by with_reducible rfl));intro wq cO R hR;(have ei:=(aJ cO).1;(try simp only[Xr,aa,Xw,Xs]at ei);go_simp;first|exact hR|(first|(go_at_call 189;exact jO cO (d4 _ _ _) hR)));simp only[Act.put,Xp,Xu,Xx]))
  refine wpQuiet_nil ?_;intro w1 cl;obtain⟨cm,cr⟩:=aJ cl;have cv:=br cl;(try simp only[Xr,aa,Xw,Xs]at cm cr cv)
  go_wp2_with fail
  go_ret
  refine⟨dn (by simp[xL,hA]),Bel.bel (B:=_) ?_⟩;(repeat(first|with_reducible assumption|with_reducible exact Bel.refl _|with_reducible refine Bel.alloc ?_ _|with_reducible refine Bel.drewN ?_ _|with_reducible refine Bel.drew ?_|(with_reducible refine Bel.setCell0 ?_ ?_ _;rotate_left;(first|omega|(simp;done)|(simp;omega)))|(with_reducible refine Bel.setCell ?_ (p:=_) ?_ _;rotate_left;(first|(simp;done)|omega|(simp;omega)))|refine Bel.call ?_ (by assumption)|(refine EX.bel ?_ (by assumption) ?_;rotate_left;(first|omega|(simp;omega)))))
 case true=>
  cases hB:bE b m
  case false=>
   go_enter func169,ntmps169
   go_wp2_with fail
   refine dZ (by kernel_rfl) (by kernel_rfl) ?_;repeat(first|((first|refine j9 rfl rfl rfl (by with_reducible rfl) ?_|refine ke rfl rfl rfl (by with_reducible rfl) ?_|refine kf rfl rfl rfl (by with_reducible rfl) ?_);simp only[Act.put,Xp,Xu,Xx])|(apply dY;(first|exact bx rfl|exact bD rfl rfl rfl (by with_reducible rfl));intro wq cO R hR;(have ei:=(aJ cO).1;(try simp only[Xr,aa,Xw,Xs]at ei);go_simp;first|exact hR|(first|(go_at_call 189;exact jO cO (d4 _ _ _) hR)));simp only[Act.put,Xp,Xu,Xx]))
   refine wpQuiet_nil ?_;intro w1 cl;obtain⟨cm,cr⟩:=aJ cl;have cv:=br cl;(try simp only[Xr,aa,Xw,Xs]at cm cr cv)
   go_wp2_with fail
   go_ret
   refine⟨dn (by simp[xL,hA,hB]),Bel.bel (B:=_) ?_⟩;(repeat(first|with_reducible assumption|with_reducible exact Bel.refl _|with_reducible refine Bel.alloc ?_ _|with_reducible refine Bel.drewN ?_ _|with_reducible refine Bel.drew ?_|(with_reducible refine Bel.setCell0 ?_ ?_ _;rotate_left;(first|omega|(simp;done)|(simp;omega)))|(with_reducible refine Bel.setCell ?_ (p:=_) ?_ _;rotate_left;(first|(simp;done)|omega|(simp;omega)))|refine Bel.call ?_ (by assumption)|(refine EX.bel ?_ (by assumption) ?_;rotate_left;(first|omega|(simp;omega)))))
  case true=>
   cases hC:kP b m a
   case false=>
    go_enter func169,ntmps169
    go_wp2_with fail
    refine dZ (by kernel_rfl) (by kernel_rfl) ?_;repeat(first|((first|refine j9 rfl rfl rfl (by with_reducible rfl) ?_|refine ke rfl rfl rfl (by with_reducible rfl) ?_|refine kf rfl rfl rfl (by with_reducible rfl) ?_);simp only[Act.put,Xp,Xu,Xx])|(apply dY;(first|exact bx rfl|exact bD rfl rfl rfl (by with_reducible rfl));intro wq cO R hR;(have ei:=(aJ cO).1;(try simp only[Xr,aa,Xw,Xs]at ei);go_simp;first|exact hR|(first|(go_at_call 189;exact jO cO (d4 _ _ _) hR)|(go_at_call 224;exact jO cO (og _ _ _ _) hR)|(go_at_call 190;exact jO cO (jQ _ _ _ hA) hR)));simp only[Act.put,Xp,Xu,Xx]))
    refine wpQuiet_nil ?_;intro w1 cl;obtain⟨cm,cr⟩:=aJ cl;have cv:=br cl;(try simp only[Xr,aa,Xw,Xs]at cm cr cv)
    go_wp2_with fail
    go_ret
    refine⟨dn (by simp[xL,hA,hB,hC]),Bel.bel (B:=_) ?_⟩;(repeat(first|with_reducible assumption|with_reducible exact Bel.refl _|with_reducible refine Bel.alloc ?_ _|with_reducible refine Bel.drewN ?_ _|with_reducible refine Bel.drew ?_|(with_reducible refine Bel.setCell0 ?_ ?_ _;rotate_left;(first|omega|(simp;done)|(simp;omega)))|(with_reducible refine Bel.setCell ?_ (p:=_) ?_ _;rotate_left;(first|(simp;done)|omega|(simp;omega)))|refine Bel.call ?_ (by assumption)|(refine EX.bel ?_ (by assumption) ?_;rotate_left;(first|omega|(simp;omega)))))
   case true=>
    go_enter func169,ntmps169
    go_wp2_with fail
    refine dZ (by kernel_rfl) (by kernel_rfl) ?_;repeat(first|((first|refine j9 rfl rfl rfl (by with_reducible rfl) ?_|refine ke rfl rfl rfl (by with_reducible rfl) ?_|refine kf rfl rfl rfl (by with_reducible rfl) ?_);simp only[Act.put,Xp,Xu,Xx])|(apply dY;(first|exact bx rfl|exact bD rfl rfl rfl (by with_reducible rfl));intro wq cO R hR;(have ei:=(aJ cO).1;(try simp only[Xr,aa,Xw,Xs]at ei);go_simp;first|exact hR|(first|(go_at_call 189;exact jO cO (d4 _ _ _) hR)|(go_at_call 224;exact jO cO (og _ _ _ _) hR)|(go_at_call 190;exact jO cO (jQ _ _ _ hA) hR)));simp only[Act.put,Xp,Xu,Xx]))
    refine wpQuiet_nil ?_;intro w1 cl;obtain⟨cm,cr⟩:=aJ cl;have cv:=br cl;(try simp only[Xr,aa,Xw,Xs]at cm cr cv)
    go_wp2_with fail
    go_ret
    refine⟨dn (by simp[xL,hA,hB,hC]),Bel.bel (B:=_) ?_⟩;(repeat(first|with_reducible assumption|with_reducible exact Bel.refl _|with_reducible refine Bel.alloc ?_ _|with_reducible refine Bel.drewN ?_ _|with_reducible refine Bel.drew ?_|(with_reducible refine Bel.setCell0 ?_ ?_ _;rotate_left;(first|omega|(simp;done)|(simp;omega)))|(with_reducible refine Bel.setCell ?_ (p:=_) ?_ _;rotate_left;(first|(simp;done)|omega|(simp;omega)))|refine Bel.call ?_ (by assumption)|(refine EX.bel ?_ (by assumption) ?_;rotate_left;(first|omega|(simp;omega)))))
theorem qY (a l b m:Int)(w:World):
 Calls prog 106 #[.agg #[.int .i64 a,.int .i64 l],.agg #[.int .i64 b,.int .i64 m]] w fun e w'=>e= .returned (.bool (nx a l b m))∧dA w w':=by
 cases hA:bE a l
 case false=>
  go_enter func106,ntmps106
  go_wp2_with fail
  refine dZ (by kernel_rfl) (by kernel_rfl) ?_;repeat(first|((first|refine j9 rfl rfl rfl (by with_reducible rfl) ?_|refine ke rfl rfl rfl (by with_reducible rfl) ?_|refine kf rfl rfl rfl (by with_reducible rfl) ?_);simp only[Act.put,Xp,Xu,Xx])|(apply dY;(first|exact bx rfl|exact bD rfl rfl rfl (by with_reducible rfl));intro wq cO R hR;(have ei:=(aJ cO).1;(try simp only[Xr,aa,Xw,Xs]at ei);go_simp;first|exact hR|(first|(go_at_call 189;exact jO cO (d4 _ _ _) hR)));simp only[Act.put,Xp,Xu,Xx]))
  refine wpQuiet_nil ?_;intro w1 cl;obtain⟨cm,cr⟩:=aJ cl;have cv:=br cl;(try simp only[Xr,aa,Xw,Xs]at cm cr cv)
  go_wp2_with fail
  go_ret
  refine⟨dn (by simp[nx,hA]),Bel.bel (B:=_) ?_⟩;(repeat(first|with_reducible assumption|with_reducible exact Bel.refl _|with_reducible refine Bel.alloc ?_ _|with_reducible refine Bel.drewN ?_ _|with_reducible refine Bel.drew ?_|(with_reducible refine Bel.setCell0 ?_ ?_ _;rotate_left;(first|omega|(simp;done)|(simp;omega)))|(with_reducible refine Bel.setCell ?_ (p:=_) ?_ _;rotate_left;(first|(simp;done)|omega|(simp;omega)))|refine Bel.call ?_ (by assumption)|(refine EX.bel ?_ (by assumption) ?_;rotate_left;(first|omega|(simp;omega)))))
 case true=>
  cases hB:bE b m
  case false=>
   go_enter func106,ntmps106
   go_wp2_with fail
   refine dZ (by kernel_rfl) (by kernel_rfl) ?_;repeat(first|((first|refine j9 rfl rfl rfl (by with_reducible rfl) ?_|refine ke rfl rfl rfl (by with_reducible rfl) ?_|refine kf rfl rfl rfl (by with_reducible rfl) ?_);simp only[Act.put,Xp,Xu,Xx])|(apply dY;(first|exact bx rfl|exact bD rfl rfl rfl (by with_reducible rfl));intro wq cO R hR;(have ei:=(aJ cO).1;(try simp only[Xr,aa,Xw,Xs]at ei);go_simp;first|exact hR|(first|(go_at_call 189;exact jO cO (d4 _ _ _) hR)));simp only[Act.put,Xp,Xu,Xx]))
   refine wpQuiet_nil ?_;intro w1 cl;obtain⟨cm,cr⟩:=aJ cl;have cv:=br cl;(try simp only[Xr,aa,Xw,Xs]at cm cr cv)
   go_wp2_with fail
   go_ret
   refine⟨dn (by simp[nx,hA,hB]),Bel.bel (B:=_) ?_⟩;(repeat(first|with_reducible assumption|with_reducible exact Bel.refl _|with_reducible refine Bel.alloc ?_ _|with_reducible refine Bel.drewN ?_ _|with_reducible refine Bel.drew ?_|(with_reducible refine Bel.setCell0 ?_ ?_ _;rotate_left;(first|omega|(simp;done)|(simp;omega)))|(with_reducible refine Bel.setCell ?_ (p:=_) ?_ _;rotate_left;(first|(simp;done)|omega|(simp;omega)))|refine Bel.call ?_ (by assumption)|(refine EX.bel ?_ (by assumption) ?_;rotate_left;(first|omega|(simp;omega)))))
  case true=>
   cases hC:decide (a≤kO b m)
   case false=>
    go_enter func106,ntmps106
    go_wp2_with fail
    refine dZ (by kernel_rfl) (by kernel_rfl) ?_;repeat(first|((first|refine j9 rfl rfl rfl (by with_reducible rfl) ?_|refine ke rfl rfl rfl (by with_reducible rfl) ?_|refine kf rfl rfl rfl (by with_reducible rfl) ?_);simp only[Act.put,Xp,Xu,Xx])|(apply dY;(first|exact bx rfl|exact bD rfl rfl rfl (by with_reducible rfl));intro wq cO R hR;(have ei:=(aJ cO).1;(try simp only[Xr,aa,Xw,Xs]at ei);go_simp;first|exact hR|(first|(go_at_call 189;exact jO cO (d4 _ _ _) hR)|(go_at_call 190;exact jO cO (jQ _ _ _ (by assumption)) hR)));simp only[Act.put,Xp,Xu,Xx]))
    refine wpQuiet_nil ?_;intro w1 cl;obtain⟨cm,cr⟩:=aJ cl;have cv:=br cl;(try simp only[Xr,aa,Xw,Xs]at cm cr cv)
    go_wp2_with fail
    go_ret
    refine⟨dn (by simp[nx,hA,hB,hC]),Bel.bel (B:=_) ?_⟩;(repeat(first|with_reducible assumption|with_reducible exact Bel.refl _|with_reducible refine Bel.alloc ?_ _|with_reducible refine Bel.drewN ?_ _|with_reducible refine Bel.drew ?_|(with_reducible refine Bel.setCell0 ?_ ?_ _;rotate_left;(first|omega|(simp;done)|(simp;omega)))|(with_reducible refine Bel.setCell ?_ (p:=_) ?_ _;rotate_left;(first|(simp;done)|omega|(simp;omega)))|refine Bel.call ?_ (by assumption)|(refine EX.bel ?_ (by assumption) ?_;rotate_left;(first|omega|(simp;omega)))))
   case true=>
    go_enter func106,ntmps106
    go_wp2_with fail
    refine dZ (by kernel_rfl) (by kernel_rfl) ?_;repeat(first|((first|refine j9 rfl rfl rfl (by with_reducible rfl) ?_|refine ke rfl rfl rfl (by with_reducible rfl) ?_|refine kf rfl rfl rfl (by with_reducible rfl) ?_);simp only[Act.put,Xp,Xu,Xx])|(apply dY;(first|exact bx rfl|exact bD rfl rfl rfl (by with_reducible rfl));intro wq cO R hR;(have ei:=(aJ cO).1;(try simp only[Xr,aa,Xw,Xs]at ei);go_simp;first|exact hR|(first|(go_at_call 189;exact jO cO (d4 _ _ _) hR)|(go_at_call 190;exact jO cO (jQ _ _ _ (by assumption)) hR)));simp only[Act.put,Xp,Xu,Xx]))
    refine wpQuiet_nil ?_;intro w1 cl;obtain⟨cm,cr⟩:=aJ cl;have cv:=br cl;(try simp only[Xr,aa,Xw,Xs]at cm cr cv)
    go_wp2_with fail
    go_ret
    refine⟨dn (by simp[nx,hA,hB,hC]),Bel.bel (B:=_) ?_⟩;(repeat(first|with_reducible assumption|with_reducible exact Bel.refl _|with_reducible refine Bel.alloc ?_ _|with_reducible refine Bel.drewN ?_ _|with_reducible refine Bel.drew ?_|(with_reducible refine Bel.setCell0 ?_ ?_ _;rotate_left;(first|omega|(simp;done)|(simp;omega)))|(with_reducible refine Bel.setCell ?_ (p:=_) ?_ _;rotate_left;(first|(simp;done)|omega|(simp;omega)))|refine Bel.call ?_ (by assumption)|(refine EX.bel ?_ (by assumption) ?_;rotate_left;(first|omega|(simp;omega)))))
end
section
open Go.Proofs
theorem gN {w:World}{b off:Nat}{c:Value}{cs:List Value}(h:w.cell? ⟨b,off,none⟩=some c)(hs:lA w b (off+1) cs):lA w b off (c::cs):=by
 intro i hi;match i with
 |0=>simpa using h
 |i+1=>have:=hs i (by simpa using hi);simpa[ZF,Nat.add_comm 1 i]using this
theorem oh {w:World}{b off:Nat}:lA w b off []:=fun i hi=>absurd hi (by simp)
theorem sE {w:World}{b:Nat}(a l:Int)(v:Bool)(hv:bE a l=v)(h0:w.cell? ⟨b,0,none⟩=some (.int .i64 a))(h1:w.cell? ⟨b,1,none⟩=some (.int .i64 l)):
 Calls prog 48 #[.slice (some ⟨b,0,none⟩) 1 1] w fun e w'=>e= .returned (.bool v)∧dA w w':=by
 have h:Sl (fun _=>True) w 2 cQ (some ⟨b,0,none⟩) 1 [(⟨a,l⟩:Pfx)]:=by
  refine⟨by simp,by omega,fun i hi=>?_⟩;match i with
  |0=>exact⟨b,0,_,rfl,trivial,rfl,rfl,gN h0 (gN h1 oh)⟩
 refine(yN h).mono fun e w' hh=>⟨hh.1.trans (dn ?_),hh.2⟩;rw[←hv];simp[bE,Pfx.chk]
theorem EO {w:World}{b:Nat}(a l c m:Int)(v:Bool)(hv:(bE a l&&bE c m)=v)(h0:w.cell? ⟨b,0,none⟩=some (.int .i64 a))(h1:w.cell? ⟨b,1,none⟩=some (.int .i64 l))
 (h2:w.cell? ⟨b,2,none⟩=some (.int .i64 c)) (h3:w.cell? ⟨b,3,none⟩=some (.int .i64 m)):
 Calls prog 48 #[.slice (some ⟨b,0,none⟩) 2 2] w fun e w'=>e= .returned (.bool v)∧dA w w':=by
 have h:Sl (fun _=>True) w 2 cQ (some ⟨b,0,none⟩) 2 [(⟨a,l⟩:Pfx),⟨c,m⟩]:=by
  refine⟨by simp,by omega,fun i hi=>?_⟩;match i with
  |0=>exact⟨b,0,_,rfl,trivial,rfl,rfl,gN h0 (gN h1 oh)⟩
  |1=>exact⟨b,0,_,rfl,trivial,rfl,rfl,gN h2 (gN h3 oh)⟩
 refine(yN h).mono fun e w' hh=>⟨hh.1.trans (dn ?_),hh.2⟩;rw[←hv];simp[bE,Pfx.chk]
theorem H2 (x y:BitVec 64):(x&&& ~~~y).toNat=x.toNat - (x&&& y).toNat:=by
 have h1:(x&&& ~~~y)&&& (x&&& y)=0#64:=by
  ext i hi
  simp only[BitVec.getElem_and,BitVec.getElem_not,BitVec.getElem_zero];cases x[i]<;>cases y[i]<;>rfl
 have h2:(x&&& ~~~y)+(x&&& y)=x:=by
  rw[BitVec.add_eq_or_of_and_eq_zero _ _ h1];ext i hi
  simp only[BitVec.getElem_and,BitVec.getElem_not,BitVec.getElem_or];cases x[i]<;>cases y[i]<;>rfl
 have h4:=BitVec.toNat_add_of_and_eq_zero h1;rw[h2]at h4;omega
theorem vD (a l:Int)(h0:0≤a)(h1:a≤65535)(h2:0≤l):bits .andNot .i64 a (EF l)=a - a % eG l:=by
 obtain⟨n,rfl⟩:=Int.eq_ofNat_of_zero_le h0;have hm:=pY l h2;rw[Am]at hm ⊢;show IntKind.i64.wrap ((BitVec.ofInt 64 (n:Int)&&& ~~~ BitVec.ofInt 64 _).toNat:Int)=_;rw[H2,BitVec.toNat_and,kH n (by omega),kH _ (by omega),U',IntKind.wrap_i64];have:=Nat.mod_le n (2 ^ (16 - l).toNat);unfold eG;have h9:((n:Int) % 2 ^ (16 - l).toNat)=((n % 2 ^ (16 - l).toNat:Nat):Int):=by simp
 omega
def tG (a l:Int):Int:=if bE a l=true then eG l else 0
theorem Cp (a l:Int)(w:World):
 Calls prog 176 #[.agg #[.int .i64 a,.int .i64 l]] w fun e w'=>e= .returned (.int .i64 (tG a l))∧dA w w':=by
 cases hA:bE a l
 case false=>
  have hs:tG a l=0:=by simp[tG,hA]
  rw[hs];have hv:=Xj hA;go_enter func176,ntmps176
  go_wp2_with (first|(go_at_call 48;refine(sE a l _ hv.out ?_ ?_).mono ?_;go_simp;go_simp;rintro e w1 ⟨rfl,cl⟩))
  go_ret
  refine⟨rfl,Bel.bel (B:=_) ?_⟩;(repeat(first|with_reducible assumption|with_reducible exact Bel.refl _|with_reducible refine Bel.alloc ?_ _|with_reducible refine Bel.drewN ?_ _|with_reducible refine Bel.drew ?_|(with_reducible refine Bel.setCell0 ?_ ?_ _;rotate_left;(first|omega|(simp;done)|(simp;omega)))|(with_reducible refine Bel.setCell ?_ (p:=_) ?_ _;rotate_left;(first|(simp;done)|omega|(simp;omega)))|refine Bel.call ?_ (by assumption)|(refine EX.bel ?_ (by assumption) ?_;rotate_left;(first|omega|(simp;omega)))))
 case true=>
  have hs:tG a l=EF l+1:=by simp[tG,hA,EF,eG]
  rw[hs];have hv:=Xj hA;obtain⟨g1,g2,g3,g4,-⟩:=dN hA;obtain⟨z1,z2⟩:=pY l g1;go_enter func176,ntmps176
  go_wp2_with (first|(go_at_call 48;refine(sE a l _ hv.out ?_ ?_).mono ?_;go_simp;go_simp;rintro e w1 ⟨rfl,cl⟩;obtain⟨cm,cr⟩:=aJ cl;simp only[Xr]at cm cr)|(go_at_call 49;refine(od _ _ g1 g2).mono ?_;rintro e w2 ⟨rfl,rfl⟩))
  go_ret
  refine⟨rfl,Bel.bel (B:=_) ?_⟩;(repeat(first|with_reducible assumption|with_reducible exact Bel.refl _|with_reducible refine Bel.alloc ?_ _|with_reducible refine Bel.drewN ?_ _|with_reducible refine Bel.drew ?_|(with_reducible refine Bel.setCell0 ?_ ?_ _;rotate_left;(first|omega|(simp;done)|(simp;omega)))|(with_reducible refine Bel.setCell ?_ (p:=_) ?_ _;rotate_left;(first|(simp;done)|omega|(simp;omega)))|refine Bel.call ?_ (by assumption)|(refine EX.bel ?_ (by assumption) ?_;rotate_left;(first|omega|(simp;omega)))))
end
section
variable {P:Program}{ops:Array Oper}{Q:Exit→Act→World→Prop}
def GO (P:Program)(ops:Array Oper)(Q:Exit→Act→World→Prop):Nat→Array Bool→Act→World→Prop
 |0,listed,a,W=>Region.ready .any ops listed=[]∧∀w,dA W w→Q .normal a w
 |fuel+1,listed,a,W=>∀w,dA W w→(Region.ready .any ops listed=[]→Q .normal a w)∧
  ∀i∈Region.ready .any ops listed,wpOp P ops Q i (fun a' w'=>dA w w'∧GO P ops Q fuel (listed.setIfInBounds i true) a' w') a w
theorem GO.world:∀{fuel:Nat}{listed:Array Bool}{a:Act}{W W':World},dA W W'→GO P ops Q fuel listed a W→GO P ops Q fuel listed a W'
 |0,_,_,_,_,hx,h=>⟨h.1,fun w hw=>h.2 w (aj hx hw)⟩
 |_+1,_,_,_,_,hx,h=>fun w hw=>h w (aj hx hw)
theorem GO.any:∀{fuel:Nat}{listed:Array Bool}{a:Act}{W:World},GO P ops Q fuel listed a W→wpAny P .any ops Q fuel listed a W
 |0,_,_,_,h=>⟨h.1,h.2 _ (Below.refl _ _)⟩
 |_+1,_,_,W,h=>⟨(h W (Below.refl _ _)).1,fun i hi=>wpOp_mono (fun _ _ h'=>GO.any h'.2) ((h W (Below.refl _ _)).2 i hi)⟩
def QY (P:Program)(ops:Array Oper)(W:World)(o:Oper)(v:Value)(a:Act):Prop:=
 (Region.wanted o (yielded ops a.tmps)=true∧∀w,dA W w→o.quietAt P a (dA w) w v)∨
 (Region.wanted o (yielded ops a.tmps)=false∧v=undef)
theorem QY.world {W W':World}{o:Oper}{v:Value}{a:Act}(hx:dA W W')(h:QY P ops W o v a):QY P ops W' o v a:=
 h.imp (fun⟨h1,h2⟩=>⟨h1,fun w hw=>h2 w (aj hx hw)⟩) id
theorem QY.of_same {W:World}{o:Oper}{v:Value}{a a':Act}(hy:QY P ops W o v a)(he:execOp a'.eval o=execOp a.eval o)
 (hw:Region.wanted o (yielded ops a'.tmps)=Region.wanted o (yielded ops a.tmps)):QY P ops W o v a':=by
 unfold QY Oper.quietAt at*;rw[he,hw];exact hy
theorem QY.wpOp {W:World}{i:Nat}{o:Oper}{v:Value}{a:Act}(hi:ops[i]? =some o)(hy:QY P ops W o v a){K:Act→World→Prop}{w:World}(hw:dA W w)(h:∀w',dA w w'→K (a.put o.dst v) w'):wpOp P ops Q i K a w:=by
 unfold Go.wpOp;simp only[hi];rcases hy with⟨A7,hv⟩|⟨A7,rfl⟩
 ·simp only[A7,if_true];left;exact Oper.wp_of_quiet (C:=dA w) (K:=fun a'=>a'=a.put o.dst v) (Below.refl _ _) (fun a' w' hw' ha=>ha ▸ h w' hw') ⟨v,fun w'' hw''=>by
   have:=hv w'' (aj hw hw'');unfold Oper.quietAt at*;generalize (execOp a.eval o).run P w''=r at*;cases r with
   |ok n u=>cases n<;>simp only[Oper.quietUpon]at this ⊢<;>first|exact this|exact⟨this.1,this.2.mono fun _ _ ⟨e1,e2⟩=>⟨e1,aj hw'' e2⟩⟩
   |halt x u=>simp only[Oper.quietUpon]at this,rfl⟩
 ·simp only[A7,YB,if_false];exact h w (Below.refl _ _)
theorem H3 {W:World}{j:Nat}{oi oj:Oper}{v:Value}(hj:ops[j]? =some oj)(Hc:oi.apart ops oj=true)
 (Ei:∀cs b,oi.op≠ .select cs b) (Qf:∀cs b,oj.op≠ .select cs b)
 (hQ:∀c a w,Q (.panic c) (a.put oi.dst v) w→Q (.panic c) a w) {K:Act→World→Prop}{a:Act}{w:World}
 (hy:QY P ops W oi v a) (h:wpOp P ops Q j K (a.put oi.dst v) w):
 wpOp P ops Q j (fun a' w'=>QY P ops W oi v a'∧K (a'.put oi.dst v) w') a w:=by
 obtain⟨h1,h2,h3⟩:=Oper.apart_spec Hc;have keep:∀(a:Act),QY P ops W oi v a→∀u,QY P ops W oi v (a.put oj.dst u):=fun a hy u=>
  hy.of_same (execOp_put oi Ei a oj.dst u h3) (wanted_put oi a oj.dst u h3)
 have keepD:∀d,QY P ops W oi v {a with defers:=d::a.defers}:=fun d=>hy.of_same rfl rfl;unfold wpOp at*;simp only[hj]at*;rw[wanted_put oj a oi.dst v h1]at h;split
 ·rename_i hw;simp only[hw,if_true]at h;rcases h with h|⟨t7,DX⟩
  case inr=>exact .inr ⟨by unfold Oper.asks at*;rw[execOp_put oj Qf a oi.dst v h1]at t7;exact t7,DX⟩
  refine .inl ?_;unfold Oper.wp at*;rw[execOp_put oj Qf a oi.dst v h1]at h;generalize (execOp a.eval oj).run P w=r at*;cases r with
  |ok n w'=>
   cases n<;>simp only[Oper.upon]at h ⊢
   case value u=>exact⟨keep a hy u,by rw[←Act.put_comm a v u h2];exact h⟩
   case skip=>exact⟨keep a hy _,by rw[←Act.put_comm a v undef h2];exact h⟩
   case defer d=>
    refine⟨keep _ (keepD d) _,?_⟩;rw[←Act.put_comm _ v undef h2,←Act.put_defers];exact h
   case enter f args=>
    refine Calls.mono h fun e w'' he=>?_;cases e with
    |returned u=>exact⟨keep a hy u,by rw[←Act.put_comm a v u h2];exact he⟩
    |panicked c=>exact hQ _ _ _ he
    |outgrown=>exact he
   case row row args=>exact Rows.mono h fun u w'' he=>⟨keep a hy u,by rw[←Act.put_comm a v u h2];exact he⟩
  |halt x w'=>
   cases x<;>simp only[Oper.upon]at h ⊢
   case panic u=>exact hQ _ _ _ h
 ·rename_i hw;simp only[hw]at h;exact⟨keep a hy _,by rw[←Act.put_comm a v undef h2];exact h⟩
theorem KA {i:Nat}{oi:Oper}{v:Value}(hi:ops[i]? =some oi)(DY:∀(j:Nat) (o:Oper) cs b,ops[j]? =some o→o.op≠ .select cs b)
 (hQ:∀c a w,Q (.panic c) (a.put oi.dst v) w→Q (.panic c) a w):
 ∀(fuel:Nat) (listed:Array Bool) (a:Act) (W:World),
  (∀j oj,ops[j]? =some oj→j≠i→listed.getD j true=false→(∀e∈oj.after,Region.binds .any e=true→e.on≠i)→oi.apart ops oj=true)→
  i∈Region.ready .any ops listed→QY P ops W oi v a→
  GO P ops Q fuel (listed.setIfInBounds i true) (a.put oi.dst v) W→GO P ops Q (fuel+1) listed a W:=by
 intro fuel;induction fuel with
 |zero=>
  intro listed a W _ hr hy H w hw;refine⟨fun h=>(by rw[h]at hr;cases hr),fun j hj=>?_⟩;by_cases j6:j=i
  ·subst j6;exact hy.wpOp hi hw fun w' hw'=>⟨hw',H.world (aj hw hw')⟩
  ·have:=ready_mono hj j6;rw[H.1]at this;cases this
 |succ fuel ih=>
  intro listed a W t8 hr hy H w hw;refine⟨fun h=>(by rw[h]at hr;cases hr),fun j hj=>?_⟩;by_cases j6:j=i
  ·subst j6;exact hy.wpOp hi hw fun w' hw'=>⟨hw',H.world (aj hw hw')⟩
  ·have h1:=(H w hw).2 j (ready_mono hj j6);obtain⟨DZ,oj,MM,bP⟩:=mem_ready.1 hj;have MN:∀e∈oj.after,Region.binds .any e=true→e.on≠i:=fun e he hb heq=>by
    have h1:=bP e he hb;have h0:=(mem_ready.1 hr).1;rw[heq]at h1;rcases XP i listed.size with h'|h'
    ·simp[h']at h0 h1;rw[h0]at h1;cases h1
    ·simp[YM h']at h1
   have h2:=H3 MM (t8 j oj MM j6 DZ MN) (fun cs b=>DY i oi cs b hi) (fun cs b=>DY j oj cs b MM) hQ (hy.world hw) h1;have xa:∀k ok,ops[k]? =some ok→k≠i→(listed.setIfInBounds j true).getD k true=false→
    (∀e∈ok.after,Region.binds .any e=true→e.on≠i)→oi.apart ops ok=true:=fun k ok hk MO Qg cg=>by
    refine t8 k ok hk MO ?_ cg;by_cases A8:j=k
    ·subst A8;exact DZ
    ·rw[getD_set_ne true A8]at Qg;exact Qg
   refine wpOp_mono (fun a' w' h3=>⟨h3.2.1,ih (listed.setIfInBounds j true) a' w' xa (ready_mono hr (Ne.symm j6)) (h3.1.world h3.2.1) ?_⟩) h2;rw[Array.setIfInBounds_comm _ _ j6];exact h3.2.2
def jR (P:Program)(ops:Array Oper)(Q:Exit→Act→World→Prop):List Oper→Nat→Array Bool→Act→World→Prop
 |[],_,_,a,W=>∀w,dA W w→Q .normal a w
 |o::rest,k,listed,a,W=>
  (∃v,QY P ops W o v a∧jR P ops Q rest (k+1) (listed.setIfInBounds k true) (a.put o.dst v) W)∨
  (Region.ready .any ops listed=[k]∧Region.wanted o (yielded ops a.tmps)=true∧∀w,dA W w→o.wp P a w (fun a' w'=>dA w w'∧jR P ops Q rest (k+1) (listed.setIfInBounds k true) a' w') Q)
theorem sF (hs:Region.noSelect ops=true)(hQ:∀c a d v w,Q (.panic c) (a.put d v) w→Q (.panic c) a w):∀(l:List Oper) (k:Nat) (listed:Array Bool) (a:Act) (W:World),(∀j,l[j]? =ops[k+j]?)→
 Region.lexFrom .any ops l.length k listed=true→jR P ops Q l k listed a W→GO P ops Q l.length listed a W
 |[],_,_,_,_,_,hB,h=>⟨by simpa[Region.lexFrom]using hB,h⟩
 |o::l,k,listed,a,W,hl,hB,h=>by
  have h0:ops[k]? =some o:=by simpa using (hl 0).symm
  simp only[XA,Region.lexFrom,Xy]at hB;obtain⟨⟨hr,hf⟩,hB'⟩:=hB;have hl':∀j,l[j]? =ops[k+1+j]? :=fun j=>by have:=hl (j+1);simpa[ZF,Nat.add_comm 1 j]using this
  rcases h with⟨v,hy,hK⟩|⟨eS,A7,hK⟩
  ·exact KA h0 (Region.noSelect_spec hs) (fun c a w=>hQ c a _ _ w) l.length listed a W (Region.free_spec h0 hf) (by simpa using hr) hy (sF hs hQ l (k+1) _ _ _ hl' hB' hK)
  ·intro w hw;refine⟨fun h=>by rw[eS]at h;simp at h,fun i hi=>?_⟩;rw[eS]at hi;obtain rfl:i=k:=by simpa using hi
   unfold wpOp;simp only[h0,A7,if_true];left;exact Oper.wp_mono (fun a' w' h'=>⟨h'.1,sF hs hQ l (i+1) _ _ _ hl' hB' h'.2⟩) (hK w hw)
theorem b8 {id:Nat}{a:Act}{w:World}{l:List Oper}(hm:P.follows .mixedOrders=true)(hB:Region.lexB .any l.toArray=true)(hQ:∀c a d v w,Q (.panic c) (a.put d v) w→Q (.panic c) a w)
 (h:jR P l.toArray Q l 0 (Y5 l.length false) a w):(Code.region id l.toArray true).wp P Q a w:=by
 simp only[Region.lexB,Xy]at hB;refine wp_region_any hm ?_;have h2:=sF hB.1 hQ l 0 (Y5 l.length false) a w (by simp) (by simpa using hB.2) h;have h3:=(h2.world ((Below.refl _ _).drew:dA w w.drew)).any;simpa using h3
section
variable {o:Oper}{rest:List Oper}{k:Nat}{listed:Array Bool}{a:Act}{W:World}
theorem dL (h:∀w,dA W w→Q .normal a w):jR P ops Q [] k listed a W:=h
theorem vE (hw:Region.wanted o (yielded ops a.tmps)=false)(hn:jR P ops Q rest (k+1) (listed.setIfInBounds k true) (a.put o.dst undef) W):jR P ops Q (o::rest) k listed a W:=
 .inl ⟨undef,.inr ⟨hw,rfl⟩,hn⟩
theorem bs {j d:Nat}{v:Value}(hg:o.guard=some (j,true))(hd:(ops[j]?).bind (·.dst)=some d)(hv:a.tmps.toList[d]? =some v)(hb:v= .bool false)(hn:jR P ops Q rest (k+1) (listed.setIfInBounds k true) (a.put o.dst undef) W):jR P ops Q (o::rest) k listed a W:=
 vE (by simp[Region.wanted,hg,gx hd hv hb]) hn
theorem bt {j d:Nat}{v:Value}(hg:o.guard=some (j,false))(hd:(ops[j]?).bind (·.dst)=some d)(hv:a.tmps.toList[d]? =some v)(hb:v= .bool true)(hn:jR P ops Q rest (k+1) (listed.setIfInBounds k true) (a.put o.dst undef) W):jR P ops Q (o::rest) k listed a W:=
 vE (by simp[Region.wanted,hg,gx hd hv hb]) hn
theorem bu {j d:Nat}{v:Value}{b:Bool}(hg:o.guard=some (j,b))(hd:(ops[j]?).bind (·.dst)=some d)(hv:a.tmps.toList[d]? =some v)(hb:v=undef)(hn:jR P ops Q rest (k+1) (listed.setIfInBounds k true) (a.put o.dst undef) W):jR P ops Q (o::rest) k listed a W:=
 vE (by simp[Region.wanted,hg,mT hd hv hb]) hn
theorem ci {v:Value}(hw:Region.wanted o (yielded ops a.tmps)=true)(h:∀w,dA W w→∀R:Value→Prop,R v→Sj P w w R ((execOp a.eval o).run P w))
 (hn:jR P ops Q rest (k+1) (listed.setIfInBounds k true) (a.put o.dst v) W):jR P ops Q (o::rest) k listed a W:=
 .inl ⟨v,.inl ⟨hw,fun w hw=>sq (h w hw)⟩,hn⟩
theorem jt (hr:Region.ready .any ops listed=[k])(hw:Region.wanted o (yielded ops a.tmps)=true)
 (h:∀w,dA W w→∀K:Act→World→Prop,(∀a' w',dA w w'→jR P ops Q rest (k+1) (listed.setIfInBounds k true) a' w'→K a' w')→o.wp P a w K Q):jR P ops Q (o::rest) k listed a W:=
 .inr ⟨hr,hw,fun w hw=>h w hw _ fun _ _ h1 h2=>⟨h1,h2⟩⟩
end
theorem iE {f:FuncId}{args:Array Value}{w:World}{R:Value→Prop}{v:Value}(h:Calls P f args w fun e w'=>e= .returned v∧dA w w')(hR:R v):Calls P f args w (B3 w R):=
 h.mono fun _ _ ⟨he,hx⟩=>⟨⟨v,he,hR⟩,hx⟩
theorem p4 {f:FuncId}{args:Array Value}{w:World}{R:Value→Prop}{v:Value}(h:Calls P f args w fun e w'=>e= .returned v∧w=w')(hR:R v):Calls P f args w (B3 w R):=
 h.mono fun _ _ ⟨he,hx⟩=>⟨⟨v,he,hR⟩,hx ▸ Below.refl _ _⟩
end
section
open Go.Proofs
def ol (a l b m:Int):Bool:=bE a l&&bE b m&&decide (m≤l)&&(a - a % eG m==b)
theorem kQ (a l b m:Int)(w:World):
 Calls prog 43 #[.agg #[.int .i64 a,.int .i64 l],.agg #[.int .i64 b,.int .i64 m]] w fun e w'=>e= .returned (.bool (ol a l b m))∧dA w w':=by
 cases hA:(bE a l&&bE b m)
 case false=>
  have hs:ol a l b m=false:=by simp[ol,hA]
  rw[hs];have hv:=Xj hA;clear hA hs;go_enter func43,ntmps43
  go_wp2_with fail
  refine b8 (by kernel_rfl) (by kernel_rfl) (fun _ _ d _ _ h=>by cases d<;>exact h) ?_;repeat(first|((first|refine bs rfl rfl rfl (by with_reducible rfl) ?_|refine bt rfl rfl rfl (by with_reducible rfl) ?_|refine bu rfl rfl rfl (by with_reducible rfl) ?_);simp only[Act.put,Xp,Xu,Xx])|(apply ci;(first|exact bx rfl|exact bD rfl rfl rfl (by with_reducible rfl));intro wq cO R hR;((have ei:=(aJ cO).1;(try simp only[Xr,aa,Xw,Xs]at ei));go_simp;first|exact hR|(fail));simp only[Act.put,Xp,Xu,Xx]))
  refine jt (by kernel_rfl) (by first|exact bx rfl|exact bD rfl rfl rfl (by with_reducible rfl)) (fun w1 cl K hK=>?_);obtain⟨cm,cr⟩:=aJ cl;have cv:=br cl;(try simp only[Xr,aa,Xw,Xs]at cm cr cv)
  (try have l0w1:w.heap.size≤w1.heap.size:=by omega)
  (try have l1w1:w.heap.size < w1.heap.size:=by omega)
  (try have l2w1:w.heap.size+1 < w1.heap.size:=by omega)
  go_simp
  refine hK _ _ (Bel.bel (B:=_) ?_) ?_
  ·(repeat(first|with_reducible assumption|with_reducible exact Bel.refl _|with_reducible refine Bel.alloc ?_ _|with_reducible refine Bel.drewN ?_ _|with_reducible refine Bel.drew ?_|(with_reducible refine Bel.setCell0 ?_ ?_ _;rotate_left;(first|omega|(simp;done)|(simp;omega)))|(with_reducible refine Bel.setCell ?_ (p:=_) ?_ _;rotate_left;(first|(simp;done)|omega|(simp;omega)))|refine Bel.call ?_ (by assumption)|(refine EX.bel ?_ (by assumption) ?_;rotate_left;(first|omega|(simp;omega)))))
  clear hK K;repeat(first|((first|refine bs rfl rfl rfl (by with_reducible rfl) ?_|refine bt rfl rfl rfl (by with_reducible rfl) ?_|refine bu rfl rfl rfl (by with_reducible rfl) ?_);simp only[Act.put,Xp,Xu,Xx])|(apply ci;(first|exact bx rfl|exact bD rfl rfl rfl (by with_reducible rfl));intro wq cO R hR;((have ei:=(aJ cO).1;(try simp only[Xr,aa,Xw,Xs]at ei));go_simp;first|exact hR|((go_at_call 48;refine iE (EO a l b m _ hv.out ?_ ?_ ?_ ?_) hR;go_simp;go_simp;go_simp;go_simp)));simp only[Act.put,Xp,Xu,Xx]))
  refine dL ?_;intro w2 cD;obtain⟨dQ,dD⟩:=aJ cD;have dR:=br cD;(try simp only[Xr,aa,Xw,Xs]at dQ dD dR)
  go_wp2_with fail
  go_ret
  refine⟨rfl,Bel.bel (B:=_) ?_⟩;(repeat(first|with_reducible assumption|with_reducible exact Bel.refl _|with_reducible refine Bel.alloc ?_ _|with_reducible refine Bel.drewN ?_ _|with_reducible refine Bel.drew ?_|(with_reducible refine Bel.setCell0 ?_ ?_ _;rotate_left;(first|omega|(simp;done)|(simp;omega)))|(with_reducible refine Bel.setCell ?_ (p:=_) ?_ _;rotate_left;(first|(simp;done)|omega|(simp;omega)))|refine Bel.call ?_ (by assumption)|(refine EX.bel ?_ (by assumption) ?_;rotate_left;(first|omega|(simp;omega)))))
 case true=>
  have hA':=hA;simp only[Xy]at hA';obtain⟨g1,g2,g3,g4,-⟩:=dN hA'.1;obtain⟨k1,k2,k3,k4,-⟩:=dN hA'.2;obtain⟨z1,z2⟩:=pY m k1;have hv:=Xj hA;by_cases hm:m≤l
  ·have hs:ol a l b m=(a - a % eG m==b):=by simp[ol,hA,hm]
   rw[hs];have han:=vD a m g3 g4 k1;have hmI:decide (m≤l)=true:=by simp[hm]
   clear hA hA' hs hm;cases hE:(a - a % eG m==b);all_goals
    go_enter func43,ntmps43
    go_wp2_with fail
    refine b8 (by kernel_rfl) (by kernel_rfl) (fun _ _ d _ _ h=>by cases d<;>exact h) ?_;repeat(first|((first|refine bs rfl rfl rfl (by with_reducible rfl) ?_|refine bt rfl rfl rfl (by with_reducible rfl) ?_|refine bu rfl rfl rfl (by with_reducible rfl) ?_);simp only[Act.put,Xp,Xu,Xx])|(apply ci;(first|exact bx rfl|exact bD rfl rfl rfl (by with_reducible rfl));intro wq cO R hR;((have ei:=(aJ cO).1;(try simp only[Xr,aa,Xw,Xs]at ei));go_simp;first|exact hR|(fail));simp only[Act.put,Xp,Xu,Xx]))
    refine jt (by kernel_rfl) (by first|exact bx rfl|exact bD rfl rfl rfl (by with_reducible rfl)) (fun w1 cl K hK=>?_);obtain⟨cm,cr⟩:=aJ cl;have cv:=br cl;(try simp only[Xr,aa,Xw,Xs]at cm cr cv)
    (try have l0w1:w.heap.size≤w1.heap.size:=by omega)
    (try have l1w1:w.heap.size < w1.heap.size:=by omega)
    (try have l2w1:w.heap.size+1 < w1.heap.size:=by omega)
    go_simp
    refine hK _ _ (Bel.bel (B:=_) ?_) ?_
    ·(repeat(first|with_reducible assumption|with_reducible exact Bel.refl _|with_reducible refine Bel.alloc ?_ _|with_reducible refine Bel.drewN ?_ _|with_reducible refine Bel.drew ?_|(with_reducible refine Bel.setCell0 ?_ ?_ _;rotate_left;(first|omega|(simp;done)|(simp;omega)))|(with_reducible refine Bel.setCell ?_ (p:=_) ?_ _;rotate_left;(first|(simp;done)|omega|(simp;omega)))|refine Bel.call ?_ (by assumption)|(refine EX.bel ?_ (by assumption) ?_;rotate_left;(first|omega|(simp;omega)))))
    clear hK K;repeat(first|((first|refine bs rfl rfl rfl (by with_reducible rfl) ?_|refine bt rfl rfl rfl (by with_reducible rfl) ?_|refine bu rfl rfl rfl (by with_reducible rfl) ?_);simp only[Act.put,Xp,Xu,Xx])|(apply ci;(first|exact bx rfl|exact bD rfl rfl rfl (by with_reducible rfl));intro wq cO R hR;((have ei:=(aJ cO).1;(try simp only[Xr,aa,Xw,Xs]at ei));go_simp;first|exact hR|(first|(go_at_call 48;refine iE (EO a l b m _ hv.out ?_ ?_ ?_ ?_) hR;go_simp;go_simp;go_simp;go_simp)|(go_at_call 49;exact p4 (od _ _ k1 k2) hR)));simp only[Act.put,Xp,Xu,Xx]))
    refine dL ?_;intro w2 cD;obtain⟨dQ,dD⟩:=aJ cD;have dR:=br cD;(try simp only[Xr,aa,Xw,Xs]at dQ dD dR)
    go_wp2_with fail
    go_ret
    refine⟨rfl,Bel.bel (B:=_) ?_⟩;(repeat(first|with_reducible assumption|with_reducible exact Bel.refl _|with_reducible refine Bel.alloc ?_ _|with_reducible refine Bel.drewN ?_ _|with_reducible refine Bel.drew ?_|(with_reducible refine Bel.setCell0 ?_ ?_ _;rotate_left;(first|omega|(simp;done)|(simp;omega)))|(with_reducible refine Bel.setCell ?_ (p:=_) ?_ _;rotate_left;(first|(simp;done)|omega|(simp;omega)))|refine Bel.call ?_ (by assumption)|(refine EX.bel ?_ (by assumption) ?_;rotate_left;(first|omega|(simp;omega)))))
  ·have hs:ol a l b m=false:=by simp[ol,hA,hm]
   rw[hs];have hmI:decide (m≤l)=false:=by simp[hm]
   clear hA hA' hs hm;go_enter func43,ntmps43
   go_wp2_with fail
   refine b8 (by kernel_rfl) (by kernel_rfl) (fun _ _ d _ _ h=>by cases d<;>exact h) ?_;repeat(first|((first|refine bs rfl rfl rfl (by with_reducible rfl) ?_|refine bt rfl rfl rfl (by with_reducible rfl) ?_|refine bu rfl rfl rfl (by with_reducible rfl) ?_);simp only[Act.put,Xp,Xu,Xx])|(apply ci;(first|exact bx rfl|exact bD rfl rfl rfl (by with_reducible rfl));intro wq cO R hR;((have ei:=(aJ cO).1;(try simp only[Xr,aa,Xw,Xs]at ei));go_simp;first|exact hR|(fail));simp only[Act.put,Xp,Xu,Xx]))
   refine jt (by kernel_rfl) (by first|exact bx rfl|exact bD rfl rfl rfl (by with_reducible rfl)) (fun w1 cl K hK=>?_);obtain⟨cm,cr⟩:=aJ cl;have cv:=br cl;(try simp only[Xr,aa,Xw,Xs]at cm cr cv)
   (try have l0w1:w.heap.size≤w1.heap.size:=by omega)
   (try have l1w1:w.heap.size < w1.heap.size:=by omega)
   (try have l2w1:w.heap.size+1 < w1.heap.size:=by omega)
   go_simp
   refine hK _ _ (Bel.bel (B:=_) ?_) ?_
   ·(repeat(first|with_reducible assumption|with_reducible exact Bel.refl _|with_reducible refine Bel.alloc ?_ _|with_reducible refine Bel.drewN ?_ _|with_reducible refine Bel.drew ?_|(with_reducible refine Bel.setCell0 ?_ ?_ _;rotate_left;(first|omega|(simp;done)|(simp;omega)))|(with_reducible refine Bel.setCell ?_ (p:=_) ?_ _;rotate_left;(first|(simp;done)|omega|(simp;omega)))|refine Bel.call ?_ (by assumption)|(refine EX.bel ?_ (by assumption) ?_;rotate_left;(first|omega|(simp;omega)))))
   clear hK K;repeat(first|((first|refine bs rfl rfl rfl (by with_reducible rfl) ?_|refine bt rfl rfl rfl (by with_reducible rfl) ?_|refine bu rfl rfl rfl (by with_reducible rfl) ?_);simp only[Act.put,Xp,Xu,Xx])|(apply ci;(first|exact bx rfl|exact bD rfl rfl rfl (by with_reducible rfl));intro wq cO R hR;((have ei:=(aJ cO).1;(try simp only[Xr,aa,Xw,Xs]at ei));go_simp;first|exact hR|((go_at_call 48;refine iE (EO a l b m _ hv.out ?_ ?_ ?_ ?_) hR;go_simp;go_simp;go_simp;go_simp)));simp only[Act.put,Xp,Xu,Xx]))
   refine dL ?_;intro w2 cD;obtain⟨dQ,dD⟩:=aJ cD;have dR:=br cD;(try simp only[Xr,aa,Xw,Xs]at dQ dD dR)
   go_wp2_with fail
   go_ret
   refine⟨rfl,Bel.bel (B:=_) ?_⟩;(repeat(first|with_reducible assumption|with_reducible exact Bel.refl _|with_reducible refine Bel.alloc ?_ _|with_reducible refine Bel.drewN ?_ _|with_reducible refine Bel.drew ?_|(with_reducible refine Bel.setCell0 ?_ ?_ _;rotate_left;(first|omega|(simp;done)|(simp;omega)))|(with_reducible refine Bel.setCell ?_ (p:=_) ?_ _;rotate_left;(first|(simp;done)|omega|(simp;omega)))|refine Bel.call ?_ (by assumption)|(refine EX.bel ?_ (by assumption) ?_;rotate_left;(first|omega|(simp;omega)))))
end
section
open Go.Proofs
def lF (a l x:Int):Bool:=bE a l&&(decide (0≤x)&&(decide (x≤65535)&&(x - x % eG l==a)))
theorem H4 (a l x:Int)(w:World):
 Calls prog 25 #[.agg #[.int .i64 a,.int .i64 l],.int .i64 x] w fun e w'=>e= .returned (.bool (lF a l x))∧dA w w':=by
 cases hA:bE a l
 case false=>
  have hs:lF a l x=false:=by simp[lF,hA]
  rw[hs];have hv:=Xj hA;clear hA hs;go_enter func25,ntmps25
  go_wp2_with fail
  refine b8 (by kernel_rfl) (by kernel_rfl) (fun _ _ d _ _ h=>by cases d<;>exact h) ?_;repeat(first|((first|refine bs rfl rfl rfl (by with_reducible rfl) ?_|refine bt rfl rfl rfl (by with_reducible rfl) ?_|refine bu rfl rfl rfl (by with_reducible rfl) ?_);simp only[Act.put,Xp,Xu,Xx])|(apply ci;(first|exact bx rfl|exact bD rfl rfl rfl (by with_reducible rfl));intro wq cO R hR;((have ei:=(aJ cO).1;(try simp only[Xr,aa,Xw,Xs]at ei));go_simp;first|exact hR|(fail));simp only[Act.put,Xp,Xu,Xx]))
  refine jt (by kernel_rfl) (by first|exact bx rfl|exact bD rfl rfl rfl (by with_reducible rfl)) (fun w1 cl K hK=>?_);obtain⟨cm,cr⟩:=aJ cl;have cv:=br cl;(try simp only[Xr,aa,Xw,Xs]at cm cr cv)
  (try have l0w1:w.heap.size≤w1.heap.size:=by omega)
  (try have l1w1:w.heap.size < w1.heap.size:=by omega)
  (try have l2w1:w.heap.size+1 < w1.heap.size:=by omega)
  go_simp
  refine hK _ _ (Bel.bel (B:=_) ?_) ?_
  ·(repeat(first|with_reducible assumption|with_reducible exact Bel.refl _|with_reducible refine Bel.alloc ?_ _|with_reducible refine Bel.drewN ?_ _|with_reducible refine Bel.drew ?_|(with_reducible refine Bel.setCell0 ?_ ?_ _;rotate_left;(first|omega|(simp;done)|(simp;omega)))|(with_reducible refine Bel.setCell ?_ (p:=_) ?_ _;rotate_left;(first|(simp;done)|omega|(simp;omega)))|refine Bel.call ?_ (by assumption)|(refine EX.bel ?_ (by assumption) ?_;rotate_left;(first|omega|(simp;omega)))))
  clear hK K;repeat(first|((first|refine bs rfl rfl rfl (by with_reducible rfl) ?_|refine bt rfl rfl rfl (by with_reducible rfl) ?_|refine bu rfl rfl rfl (by with_reducible rfl) ?_);simp only[Act.put,Xp,Xu,Xx])|(apply ci;(first|exact bx rfl|exact bD rfl rfl rfl (by with_reducible rfl));intro wq cO R hR;((have ei:=(aJ cO).1;(try simp only[Xr,aa,Xw,Xs]at ei));go_simp;first|exact hR|((go_at_call 48;refine iE (sE a l _ hv.out ?_ ?_) hR;go_simp;go_simp)));simp only[Act.put,Xp,Xu,Xx]))
  refine dL ?_;intro w2 cD;obtain⟨dQ,dD⟩:=aJ cD;have dR:=br cD;(try simp only[Xr,aa,Xw,Xs]at dQ dD dR)
  go_wp2_with fail
  go_ret
  refine⟨rfl,Bel.bel (B:=_) ?_⟩;(repeat(first|with_reducible assumption|with_reducible exact Bel.refl _|with_reducible refine Bel.alloc ?_ _|with_reducible refine Bel.drewN ?_ _|with_reducible refine Bel.drew ?_|(with_reducible refine Bel.setCell0 ?_ ?_ _;rotate_left;(first|omega|(simp;done)|(simp;omega)))|(with_reducible refine Bel.setCell ?_ (p:=_) ?_ _;rotate_left;(first|(simp;done)|omega|(simp;omega)))|refine Bel.call ?_ (by assumption)|(refine EX.bel ?_ (by assumption) ?_;rotate_left;(first|omega|(simp;omega)))))
 case true=>
  obtain⟨g1,g2,g3,g4,-⟩:=dN hA;obtain⟨z1,z2⟩:=pY l g1;have hv:=Xj hA;by_cases h0:0≤x
  ·by_cases h1:x≤65535
   ·have hs:lF a l x=(x - x % eG l==a):=by simp[lF,hA,h0,h1]
    rw[hs];have han:=vD x l h0 h1 g1;have Wy:decide (0≤x)=true:=by simp[h0]
    have h1I:decide (x≤65535)=true:=by simp[h1]
    clear hA hs;cases hE:(x - x % eG l==a);all_goals
     go_enter func25,ntmps25
     go_wp2_with fail
     refine b8 (by kernel_rfl) (by kernel_rfl) (fun _ _ d _ _ h=>by cases d<;>exact h) ?_;repeat(first|((first|refine bs rfl rfl rfl (by with_reducible rfl) ?_|refine bt rfl rfl rfl (by with_reducible rfl) ?_|refine bu rfl rfl rfl (by with_reducible rfl) ?_);simp only[Act.put,Xp,Xu,Xx])|(apply ci;(first|exact bx rfl|exact bD rfl rfl rfl (by with_reducible rfl));intro wq cO R hR;((have ei:=(aJ cO).1;(try simp only[Xr,aa,Xw,Xs]at ei));go_simp;first|exact hR|(fail));simp only[Act.put,Xp,Xu,Xx]))
     refine jt (by kernel_rfl) (by first|exact bx rfl|exact bD rfl rfl rfl (by with_reducible rfl)) (fun w1 cl K hK=>?_);obtain⟨cm,cr⟩:=aJ cl;have cv:=br cl;(try simp only[Xr,aa,Xw,Xs]at cm cr cv)
     (try have l0w1:w.heap.size≤w1.heap.size:=by omega)
     (try have l1w1:w.heap.size < w1.heap.size:=by omega)
     (try have l2w1:w.heap.size+1 < w1.heap.size:=by omega)
     go_simp
     refine hK _ _ (Bel.bel (B:=_) ?_) ?_
     ·(repeat(first|with_reducible assumption|with_reducible exact Bel.refl _|with_reducible refine Bel.alloc ?_ _|with_reducible refine Bel.drewN ?_ _|with_reducible refine Bel.drew ?_|(with_reducible refine Bel.setCell0 ?_ ?_ _;rotate_left;(first|omega|(simp;done)|(simp;omega)))|(with_reducible refine Bel.setCell ?_ (p:=_) ?_ _;rotate_left;(first|(simp;done)|omega|(simp;omega)))|refine Bel.call ?_ (by assumption)|(refine EX.bel ?_ (by assumption) ?_;rotate_left;(first|omega|(simp;omega)))))
     clear hK K;repeat(first|((first|refine bs rfl rfl rfl (by with_reducible rfl) ?_|refine bt rfl rfl rfl (by with_reducible rfl) ?_|refine bu rfl rfl rfl (by with_reducible rfl) ?_);simp only[Act.put,Xp,Xu,Xx])|(apply ci;(first|exact bx rfl|exact bD rfl rfl rfl (by with_reducible rfl));intro wq cO R hR;((have ei:=(aJ cO).1;(try simp only[Xr,aa,Xw,Xs]at ei));go_simp;first|exact hR|(first|(go_at_call 48;refine iE (sE a l _ hv.out ?_ ?_) hR;go_simp;go_simp)|(go_at_call 49;exact p4 (od _ _ g1 g2) hR)));simp only[Act.put,Xp,Xu,Xx]))
     refine dL ?_;intro w2 cD;obtain⟨dQ,dD⟩:=aJ cD;have dR:=br cD;(try simp only[Xr,aa,Xw,Xs]at dQ dD dR)
     go_wp2_with fail
     go_ret
     refine⟨rfl,Bel.bel (B:=_) ?_⟩;(repeat(first|with_reducible assumption|with_reducible exact Bel.refl _|with_reducible refine Bel.alloc ?_ _|with_reducible refine Bel.drewN ?_ _|with_reducible refine Bel.drew ?_|(with_reducible refine Bel.setCell0 ?_ ?_ _;rotate_left;(first|omega|(simp;done)|(simp;omega)))|(with_reducible refine Bel.setCell ?_ (p:=_) ?_ _;rotate_left;(first|(simp;done)|omega|(simp;omega)))|refine Bel.call ?_ (by assumption)|(refine EX.bel ?_ (by assumption) ?_;rotate_left;(first|omega|(simp;omega)))))
   ·have hs:lF a l x=false:=by simp[lF,h1]
    rw[hs];have Wy:decide (0≤x)=true:=by simp[h0]
    have h1I:decide (x≤65535)=false:=by simp[h1]
    clear hA hs h1;go_enter func25,ntmps25
    go_wp2_with fail
    refine b8 (by kernel_rfl) (by kernel_rfl) (fun _ _ d _ _ h=>by cases d<;>exact h) ?_;repeat(first|((first|refine bs rfl rfl rfl (by with_reducible rfl) ?_|refine bt rfl rfl rfl (by with_reducible rfl) ?_|refine bu rfl rfl rfl (by with_reducible rfl) ?_);simp only[Act.put,Xp,Xu,Xx])|(apply ci;(first|exact bx rfl|exact bD rfl rfl rfl (by with_reducible rfl));intro wq cO R hR;((have ei:=(aJ cO).1;(try simp only[Xr,aa,Xw,Xs]at ei));go_simp;first|exact hR|(fail));simp only[Act.put,Xp,Xu,Xx]))
    refine jt (by kernel_rfl) (by first|exact bx rfl|exact bD rfl rfl rfl (by with_reducible rfl)) (fun w1 cl K hK=>?_);obtain⟨cm,cr⟩:=aJ cl;have cv:=br cl;(try simp only[Xr,aa,Xw,Xs]at cm cr cv)
    (try have l0w1:w.heap.size≤w1.heap.size:=by omega)
    (try have l1w1:w.heap.size < w1.heap.size:=by omega)
    (try have l2w1:w.heap.size+1 < w1.heap.size:=by omega)
    go_simp
    refine hK _ _ (Bel.bel (B:=_) ?_) ?_
    ·(repeat(first|with_reducible assumption|with_reducible exact Bel.refl _|with_reducible refine Bel.alloc ?_ _|with_reducible refine Bel.drewN ?_ _|with_reducible refine Bel.drew ?_|(with_reducible refine Bel.setCell0 ?_ ?_ _;rotate_left;(first|omega|(simp;done)|(simp;omega)))|(with_reducible refine Bel.setCell ?_ (p:=_) ?_ _;rotate_left;(first|(simp;done)|omega|(simp;omega)))|refine Bel.call ?_ (by assumption)|(refine EX.bel ?_ (by assumption) ?_;rotate_left;(first|omega|(simp;omega)))))
    clear hK K;repeat(first|((first|refine bs rfl rfl rfl (by with_reducible rfl) ?_|refine bt rfl rfl rfl (by with_reducible rfl) ?_|refine bu rfl rfl rfl (by with_reducible rfl) ?_);simp only[Act.put,Xp,Xu,Xx])|(apply ci;(first|exact bx rfl|exact bD rfl rfl rfl (by with_reducible rfl));intro wq cO R hR;((have ei:=(aJ cO).1;(try simp only[Xr,aa,Xw,Xs]at ei));go_simp;first|exact hR|((go_at_call 48;refine iE (sE a l _ hv.out ?_ ?_) hR;go_simp;go_simp)));simp only[Act.put,Xp,Xu,Xx]))
    refine dL ?_;intro w2 cD;obtain⟨dQ,dD⟩:=aJ cD;have dR:=br cD;(try simp only[Xr,aa,Xw,Xs]at dQ dD dR)
    go_wp2_with fail
    go_ret
    refine⟨rfl,Bel.bel (B:=_) ?_⟩;(repeat(first|with_reducible assumption|with_reducible exact Bel.refl _|with_reducible refine Bel.alloc ?_ _|with_reducible refine Bel.drewN ?_ _|with_reducible refine Bel.drew ?_|(with_reducible refine Bel.setCell0 ?_ ?_ _;rotate_left;(first|omega|(simp;done)|(simp;omega)))|(with_reducible refine Bel.setCell ?_ (p:=_) ?_ _;rotate_left;(first|(simp;done)|omega|(simp;omega)))|refine Bel.call ?_ (by assumption)|(refine EX.bel ?_ (by assumption) ?_;rotate_left;(first|omega|(simp;omega)))))
  ·have hs:lF a l x=false:=by simp[lF,h0]
   rw[hs];have Wy:decide (0≤x)=false:=by simp[h0]
   clear hA hs h0;go_enter func25,ntmps25
   go_wp2_with fail
   refine b8 (by kernel_rfl) (by kernel_rfl) (fun _ _ d _ _ h=>by cases d<;>exact h) ?_;repeat(first|((first|refine bs rfl rfl rfl (by with_reducible rfl) ?_|refine bt rfl rfl rfl (by with_reducible rfl) ?_|refine bu rfl rfl rfl (by with_reducible rfl) ?_);simp only[Act.put,Xp,Xu,Xx])|(apply ci;(first|exact bx rfl|exact bD rfl rfl rfl (by with_reducible rfl));intro wq cO R hR;((have ei:=(aJ cO).1;(try simp only[Xr,aa,Xw,Xs]at ei));go_simp;first|exact hR|(fail));simp only[Act.put,Xp,Xu,Xx]))
   refine jt (by kernel_rfl) (by first|exact bx rfl|exact bD rfl rfl rfl (by with_reducible rfl)) (fun w1 cl K hK=>?_);obtain⟨cm,cr⟩:=aJ cl;have cv:=br cl;(try simp only[Xr,aa,Xw,Xs]at cm cr cv)
   (try have l0w1:w.heap.size≤w1.heap.size:=by omega)
   (try have l1w1:w.heap.size < w1.heap.size:=by omega)
   (try have l2w1:w.heap.size+1 < w1.heap.size:=by omega)
   go_simp
   refine hK _ _ (Bel.bel (B:=_) ?_) ?_
   ·(repeat(first|with_reducible assumption|with_reducible exact Bel.refl _|with_reducible refine Bel.alloc ?_ _|with_reducible refine Bel.drewN ?_ _|with_reducible refine Bel.drew ?_|(with_reducible refine Bel.setCell0 ?_ ?_ _;rotate_left;(first|omega|(simp;done)|(simp;omega)))|(with_reducible refine Bel.setCell ?_ (p:=_) ?_ _;rotate_left;(first|(simp;done)|omega|(simp;omega)))|refine Bel.call ?_ (by assumption)|(refine EX.bel ?_ (by assumption) ?_;rotate_left;(first|omega|(simp;omega)))))
   clear hK K;repeat(first|((first|refine bs rfl rfl rfl (by with_reducible rfl) ?_|refine bt rfl rfl rfl (by with_reducible rfl) ?_|refine bu rfl rfl rfl (by with_reducible rfl) ?_);simp only[Act.put,Xp,Xu,Xx])|(apply ci;(first|exact bx rfl|exact bD rfl rfl rfl (by with_reducible rfl));intro wq cO R hR;((have ei:=(aJ cO).1;(try simp only[Xr,aa,Xw,Xs]at ei));go_simp;first|exact hR|((go_at_call 48;refine iE (sE a l _ hv.out ?_ ?_) hR;go_simp;go_simp)));simp only[Act.put,Xp,Xu,Xx]))
   refine dL ?_;intro w2 cD;obtain⟨dQ,dD⟩:=aJ cD;have dR:=br cD;(try simp only[Xr,aa,Xw,Xs]at dQ dD dR)
   go_wp2_with fail
   go_ret
   refine⟨rfl,Bel.bel (B:=_) ?_⟩;(repeat(first|with_reducible assumption|with_reducible exact Bel.refl _|with_reducible refine Bel.alloc ?_ _|with_reducible refine Bel.drewN ?_ _|with_reducible refine Bel.drew ?_|(with_reducible refine Bel.setCell0 ?_ ?_ _;rotate_left;(first|omega|(simp;done)|(simp;omega)))|(with_reducible refine Bel.setCell ?_ (p:=_) ?_ _;rotate_left;(first|(simp;done)|omega|(simp;omega)))|refine Bel.call ?_ (by assumption)|(refine EX.bel ?_ (by assumption) ?_;rotate_left;(first|omega|(simp;omega)))))
def Gk (a l b m:Int):Bool:=ol a l b m||ol b m a l
theorem yY (a l b m:Int)(w:World):
 Calls prog 19 #[.agg #[.int .i64 a,.int .i64 l],.agg #[.int .i64 b,.int .i64 m]] w fun e w'=>e= .returned (.bool (Gk a l b m))∧dA w w':=by
 unfold Gk;cases hA:ol a l b m
 case true=>
  have hc:=kQ a l b m;rw[hA]at hc;replace hc:=Xj hc;clear hA;go_enter func19,ntmps19
  go_wp2_with fail
  refine(hc.out _).mono ?_;rintro e w1 ⟨rfl,cl⟩;obtain⟨cm,cr⟩:=aJ cl;have cv:=br cl;(try simp only[Xr,aa,Xw,Xs]at cm cr cv)
  go_wp2_with fail
  go_ret
  refine⟨rfl,Bel.bel (B:=_) ?_⟩;(repeat(first|with_reducible assumption|with_reducible exact Bel.refl _|with_reducible refine Bel.alloc ?_ _|with_reducible refine Bel.drewN ?_ _|with_reducible refine Bel.drew ?_|(with_reducible refine Bel.setCell0 ?_ ?_ _;rotate_left;(first|omega|(simp;done)|(simp;omega)))|(with_reducible refine Bel.setCell ?_ (p:=_) ?_ _;rotate_left;(first|(simp;done)|omega|(simp;omega)))|refine Bel.call ?_ (by assumption)|(refine EX.bel ?_ (by assumption) ?_;rotate_left;(first|omega|(simp;omega)))))
 case false=>
  have hc:=kQ a l b m;rw[hA]at hc;replace hc:=Xj hc;clear hA;obtain⟨r,hr⟩:∃r,r=ol b m a l:=⟨_,rfl⟩;have hd:=kQ b m a l;rw[←hr]at hd ⊢;clear hr;replace hd:=Xj hd;go_enter func19,ntmps19
  go_wp2_with fail
  refine(hc.out _).mono ?_;rintro e w1 ⟨rfl,cl⟩;obtain⟨cm,cr⟩:=aJ cl;have cv:=br cl;(try simp only[Xr,aa,Xw,Xs]at cm cr cv)
  go_wp2_with fail
  refine(hd.out _).mono ?_;rintro e w2 ⟨rfl,cD⟩;obtain⟨dQ,dD⟩:=aJ cD;have dR:=br cD;(try simp only[Xr,aa,Xw,Xs]at dQ dD dR)
  go_wp2_with fail
  go_ret
  refine⟨rfl,Bel.bel (B:=_) ?_⟩;(repeat(first|with_reducible assumption|with_reducible exact Bel.refl _|with_reducible refine Bel.alloc ?_ _|with_reducible refine Bel.drewN ?_ _|with_reducible refine Bel.drew ?_|(with_reducible refine Bel.setCell0 ?_ ?_ _;rotate_left;(first|omega|(simp;done)|(simp;omega)))|(with_reducible refine Bel.setCell ?_ (p:=_) ?_ _;rotate_left;(first|(simp;done)|omega|(simp;omega)))|refine Bel.call ?_ (by assumption)|(refine EX.bel ?_ (by assumption) ?_;rotate_left;(first|omega|(simp;omega)))))
end
theorem qZ (p:Pfx):af prog 114 [.agg (aN p)] (.v (.int .i64 (chk p.at_ p.len))):=eT (cZ func114 (by kernel_rfl) rfl) (by intro d hd;simp at hd;(repeat(first|(obtain rfl:=hd;rfl)|(rcases hd with rfl|hd; · rfl)))) rfl rfl (fun w=>oY _ _ _)
theorem QM (p:Pfx):af prog 176 [.agg (aN p)] (.v (.int .i64 (tG p.at_ p.len))):=eT (cZ func176 (by kernel_rfl) rfl) (by intro d hd;simp at hd;(repeat(first|(obtain rfl:=hd;rfl)|(rcases hd with rfl|hd; · rfl)))) rfl rfl (fun w=>Cp _ _ _)
theorem Cq (p q:Pfx):af prog 43 [.agg (aN p),.agg (aN q)] (.v (.bool (ol p.at_ p.len q.at_ q.len))):=eT (cZ func43 (by kernel_rfl) rfl) (by intro d hd;simp at hd;(repeat(first|(obtain rfl:=hd;rfl)|(rcases hd with rfl|hd; · rfl)))) rfl rfl (fun w=>kQ _ _ _ _ _)
theorem oZ (p q:Pfx):af prog 19 [.agg (aN p),.agg (aN q)] (.v (.bool (Gk p.at_ p.len q.at_ q.len))):=eT (cZ func19 (by kernel_rfl) rfl) (by intro d hd;simp at hd;(repeat(first|(obtain rfl:=hd;rfl)|(rcases hd with rfl|hd; · rfl)))) rfl rfl (fun w=>yY _ _ _ _ _)
theorem vF (p:Pfx):af prog 189 [.agg (aN p)] (.v (.bool (bE p.at_ p.len))):=eT (cZ func189 (by kernel_rfl) rfl) (by intro d hd;simp at hd;(repeat(first|(obtain rfl:=hd;rfl)|(rcases hd with rfl|hd; · rfl)))) rfl rfl (fun w=>d4 _ _ _)
theorem KB (p:Pfx)(h:bE p.at_ p.len=true):af prog 190 [.agg (aN p)] (.v (.int .i64 (kO p.at_ p.len))):=eT (cZ func190 (by kernel_rfl) rfl) (by intro d hd;simp at hd;(repeat(first|(obtain rfl:=hd;rfl)|(rcases hd with rfl|hd; · rfl)))) rfl rfl (fun w=>jQ _ _ _ h)
theorem H5 (p:Pfx)(x:Int):af prog 224 [.agg (aN p),.v (.int .i64 x)] (.v (.bool (kP p.at_ p.len x))):=eT (cZ func224 (by kernel_rfl) rfl) (by intro d hd;simp at hd;(repeat(first|(obtain rfl:=hd;rfl)|(rcases hd with rfl|hd; · rfl)))) rfl rfl (fun w=>og _ _ _ _)
theorem vG (p q:Pfx):af prog 169 [.agg (aN p),.agg (aN q)] (.v (.bool (xL p.at_ p.len q.at_ q.len))):=eT (cZ func169 (by kernel_rfl) rfl) (by intro d hd;simp at hd;(repeat(first|(obtain rfl:=hd;rfl)|(rcases hd with rfl|hd; · rfl)))) rfl rfl (fun w=>qX _ _ _ _ _)
theorem p5 (p q:Pfx):af prog 106 [.agg (aN p),.agg (aN q)] (.v (.bool (nx p.at_ p.len q.at_ q.len))):=eT (cZ func106 (by kernel_rfl) rfl) (by intro d hd;simp at hd;(repeat(first|(obtain rfl:=hd;rfl)|(rcases hd with rfl|hd; · rfl)))) rfl rfl (fun w=>qY _ _ _ _ _)
section
open Go.Proofs
def Pfx.meets (p q:Pfx):Bool:=Gk p.at_ p.len q.at_ q.len
def Pfx.low (p:Pfx):Pfx:=⟨p.at_,p.len+1⟩
def Pfx.high (p:Pfx):Pfx:=⟨p.at_+eG (p.len+1),p.len+1⟩
def Pfx.right (p:Pfx):Bool:=bE p.at_ p.len
def Pfx.v (p:Pfx):Value:= .agg #[.int .i64 p.at_,.int .i64 p.len]
theorem om {a l:Int}(h0:0≤l)(h1:l≤16)(h2:0≤a)(h3:a≤65535)(h4:a % eG l=0):bE a l=true:=by
 unfold bE;rw[EH h0 h1 h2 h3];unfold eG at h4;simp[h4]
theorem rc {l:Int}(h0:0≤l)(h1:l < 16):eG l=2*eG (l+1):=by
 unfold eG;have:(16 - l).toNat=(16 - (l+1)).toNat+1:=by omega
 rw[this,Int.pow_succ];omega
theorem mZ {l m:Int}(h0:0≤m)(h1:m≤l)(h2:l≤16):∃k:Int,eG m=eG l*k∧1≤k:=by
 refine⟨2 ^ (l - m).toNat,?_,?_⟩
 ·unfold eG;rw[←Int.pow_add];congr 1;omega
 ·have h3:=Z' (n:=(l - m).toNat);have h4:((2 ^ (l - m).toNat:Nat):Int)=(2:Int) ^ (l - m).toNat:=by simp
  omega
theorem yZ {a l:Int}(h:bE a l=true):a+eG l≤65536:=by
 obtain⟨g1,g2,g3,g4,g5⟩:=dN h;obtain⟨k,hk,pk⟩:=mZ (ZG 0) g1 g2;have h0:eG 0=65536:=by decide
 rw[h0]at hk;have hs:=fd g1;have hd:eG l ∣ 65536 - a:=by
  refine Int.dvd_sub ⟨k,hk⟩ (YL g5)
 have:=Int.le_of_dvd (by omega) hd;omega
def dO (p q:Pfx):Bool:=ol p.at_ p.len q.at_ q.len
def Pfx.hi (p:Pfx):Int:=p.at_+eG p.len
theorem Pfx.bd {p:Pfx}(h:p.right=true):0≤p.len∧p.len≤16∧0≤p.at_∧p.at_≤65535∧p.at_ % eG p.len=0:=dN h
theorem Pfx.hi_bd {p:Pfx}(h:p.right=true):p.at_ < p.hi∧p.hi≤65536:=by
 have h1:=yZ h;obtain⟨g1,-⟩:=p.bd h;have h2:=fd g1;unfold Pfx.hi;omega
theorem uA {s a b:Int}(hs:0 < s)(hb:b % s=0):a - a % s=b↔b≤a∧a < b+s:=by
 have h1:=Int.emod_nonneg a (b:=s) (by omega);have h2:=Int.emod_lt_of_pos a hs;constructor
 ·intro h;omega
 ·intro⟨h3,h4⟩;have h5:(a - b) % s=a % s:=by rw[Int.sub_emod,hb,Int.sub_zero,Int.emod_emod]
  rw[Int.emod_eq_of_lt (by omega) (by omega)]at h5;omega
theorem rd {s x:Int}(hs:0 < s)(hx:0 < x)(hd:s ∣ x):s≤x:=Int.le_of_dvd hx hd
theorem QN {p q:Pfx}(hp:p.right=true)(hq:q.right=true)(hl:q.len≤p.len)(h1:p.at_ < q.hi)(h2:q.at_ < p.hi):q.at_≤p.at_∧p.hi≤q.hi:=by
 obtain⟨a1,a2,a3,a4,a5⟩:=p.bd hp;obtain⟨b1,b2,b3,b4,b5⟩:=q.bd hq;obtain⟨k,hk,pk⟩:=mZ b1 hl a2;have s1:=fd a1;have s2:=fd b1;unfold Pfx.hi at*;have dq:eG p.len ∣ q.at_:=C' ⟨k,hk⟩ (YL b5);have dp:eG p.len ∣ p.at_:=YL a5;have dm:eG p.len ∣ eG q.len:=⟨k,hk⟩;refine⟨?_,?_⟩
 ·rcases z' p.at_ q.at_ with h|h
  ·have:=rd (by omega) (show 0 < q.at_ - p.at_ by omega) (Int.dvd_sub dq dp);omega
  ·exact h
 ·have:=rd (by omega) (show 0 < q.at_+eG q.len - p.at_ by omega) (Int.dvd_sub (Int.dvd_add dq dm) dp);omega
theorem fe {p q:Pfx}:dO p q=true↔p.right=true∧q.right=true∧q.len≤p.len∧q.at_≤p.at_∧p.at_ < q.hi:=by
 unfold dO ol Pfx.right;constructor
 ·intro h;simp only[Xy,decide_eq_true_eq,beq_iff_eq]at h;obtain⟨⟨⟨h1,h2⟩,h3⟩,h4⟩:=h;obtain⟨b1,b2,b3,b4,b5⟩:=dN h2;have:=(uA (by have:=fd b1;omega) b5).1 h4;exact⟨h1,h2,h3,this.1,this.2⟩
 ·intro⟨h1,h2,h3,h4,h5⟩;obtain⟨b1,b2,b3,b4,b5⟩:=dN h2;simp only[Xy,decide_eq_true_eq,beq_iff_eq];exact⟨⟨⟨h1,h2⟩,h3⟩,(uA (by have:=fd b1;omega) b5).2 ⟨h4,h5⟩⟩
theorem Gl {s k:Int}(hs:0≤s)(hk:1≤k):s≤s*k:=by
 have:=Int.mul_le_mul_of_nonneg_left hk hs;rwa [Int.mul_one]at this
theorem QO {l m:Int}(h0:0≤m)(h2:l≤16)(h3:0≤l)(hm:m≤16):eG l≤eG m↔m≤l:=by
 constructor
 ·intro h;rcases z' l m with hlt|hle
  ·obtain⟨k,hk,pk⟩:=mZ (l:=m) (m:=l+1) (by omega) (by omega) hm;have e:=rc h3 (by omega);have s1:=fd h0;have:eG m≤eG (l+1):=by rw[hk];exact Gl (by have:=fd (n:=l+1) (by omega);omega) pk
   omega
  ·exact hle
 ·intro h;obtain⟨k,hk,pk⟩:=mZ h0 h h2;rw[hk];exact Gl (by have:=fd h3;omega) pk
theorem cA {p q:Pfx}:dO p q=true↔p.right=true∧q.right=true∧q.at_≤p.at_∧p.hi≤q.hi:=by
 rw[fe];constructor
 ·intro⟨h1,h2,h3,h4,h5⟩;exact⟨h1,h2,QN h1 h2 h3 h5 (by have:=p.hi_bd h1;omega)⟩
 ·intro⟨h1,h2,h3,h4⟩;have hp:=p.hi_bd h1;obtain⟨a1,a2,-⟩:=p.bd h1;obtain⟨b1,b2,-⟩:=q.bd h2;exact⟨h1,h2,(QO b1 a2 a1 b2).1 (by unfold Pfx.hi at*;omega),h3,by omega⟩
theorem uB (p q:Pfx):xL p.at_ p.len q.at_ q.len=dO p q:=by
 rw[Yi,cA];unfold xL kP fE kO Pfx.right Pfx.hi;simp only[Xy,decide_eq_true_eq];constructor
 ·intro⟨⟨⟨h1,h2⟩,h3⟩,h4⟩;exact⟨h1,h2,h3.2.1,by omega⟩
 ·intro⟨h1,h2,h3,h4⟩;obtain⟨a1,-⟩:=dN h1;have s1:=fd a1;exact⟨⟨⟨h1,h2⟩,⟨h2,h3,by omega⟩⟩,⟨h2,by omega,by omega⟩⟩
theorem dU {p q:Pfx}:p.meets q=true↔p.right=true∧q.right=true∧p.at_ < q.hi∧q.at_ < p.hi:=by
 have e:p.meets q=(dO p q||dO q p):=rfl;rw[e,Bool.or_eq_true,fe,fe];constructor
 ·rintro (⟨h1,h2,h3,h4,h5⟩|⟨h1,h2,h3,h4,h5⟩)
  ·exact⟨h1,h2,h5,by have:=p.hi_bd h1;omega⟩
  ·exact⟨h2,h1,by have:=q.hi_bd h1;omega,h5⟩
 ·intro⟨h1,h2,h3,h4⟩;rcases Int.le_total q.len p.len with hl|hl
  ·exact .inl ⟨h1,h2,hl,(QN h1 h2 hl h3 h4).1,h3⟩
  ·exact .inr ⟨h2,h1,hl,(QN h2 h1 hl h4 h3).1,h4⟩
theorem fg (p q:Pfx):nx p.at_ p.len q.at_ q.len=p.meets q:=by
 rw[Yi,dU];unfold nx kO Pfx.right Pfx.hi;simp only[Xy,decide_eq_true_eq];constructor
 ·intro⟨⟨⟨h1,h2⟩,h3⟩,h4⟩;exact⟨h1,h2,by omega,by omega⟩
 ·intro⟨h1,h2,h3,h4⟩;exact⟨⟨⟨h1,h2⟩,by omega⟩,by omega⟩
theorem p6 (p q:Pfx):p.meets q=q.meets p:=by
 rw[Yi,dU,dU];constructor<;>(intro⟨h1,h2,h3,h4⟩;exact⟨h2,h1,h4,h3⟩)
theorem mo {p:Pfx}{x:Int}:kP p.at_ p.len x=true↔p.right=true∧p.at_≤x∧x < p.hi:=by
 unfold kP fE kO Pfx.right Pfx.hi;simp only[Xy,decide_eq_true_eq];constructor
 ·intro⟨h1,h2,h3⟩;exact⟨h1,h2,by omega⟩
 ·intro⟨h1,h2,h3⟩;exact⟨h1,h2,by omega⟩
theorem oq (p:Pfx)(x:Int):lF p.at_ p.len x=kP p.at_ p.len x:=by
 rw[Yi,mo];unfold lF Pfx.right;simp only[Xy,decide_eq_true_eq,beq_iff_eq];constructor
 ·intro⟨h1,h2,h3,h4⟩;obtain⟨b1,b2,b3,b4,b5⟩:=dN h1;have:=(uA (by have:=fd b1;omega) b5).1 h4;exact⟨h1,this.1,this.2⟩
 ·intro⟨h1,h2,h3⟩;obtain⟨b1,b2,b3,b4,b5⟩:=dN h1;have hf:=p.hi_bd h1;exact⟨h1,by omega,by omega,(uA (by have:=fd b1;omega) b5).2 ⟨h2,h3⟩⟩
theorem tH {a l:Int}(h:bE a l=true):tG a l=eG l:=by unfold tG;rw[if_pos h]
end
def cI (n:Int):Bool:=decide (1≤n)&&decide (n≤65536)
theorem kR (n:Int):af prog 148 [.v (.int .i64 n)] (.v (.bool (cI n))):=by
 cases e1:decide (n≥1)with
 |true=>
  have h1:decide (1≤n)=true:=e1;refine pj func148 ntmps148 results148 ?_;refine am ?_<;>intros;all_goals(unfold cI;rw[h1];exact ai.refl _)
 |false=>
  have h1:decide (1≤n)=false:=e1;refine pj func148 ntmps148 results148 ?_;refine am ?_<;>intros;all_goals(unfold cI;rw[h1];exact ai.refl _)
theorem Gm {x y:Bool}(h:x=y):ai (.v (.bool x)) (.v (.bool y)):=h ▸ ai.refl _
theorem re {x y:Int}(h:x=y):ai (.v (.int .i64 x)) (.v (.int .i64 y)):=h ▸ ai.refl _
def pE (f:Fce):Bool:=decide ((f.addrs.length:Int)>4)
def ny (s:Sbn):Bool:=decide ((s.faces.length:Int)>8)||s.faces.any pE
def kS (v:Vpc):Bool:=decide ((v.ranges.length:Int)>4)||(decide ((v.subs.length:Int)>6)||v.subs.any ny)
theorem KC (f:Fce):af prog 231 [.agg (cj f)] (.v (.bool (pE f))):=by
 refine pj func231 ntmps231 results231 ?_;exact bc;all_goals exact ai.refl _
theorem Of (s:Sbn):af prog 229 [.agg (aT s)] (.v (.bool (ny s))):=by
 unfold ny;by_cases h:s.faces.length>8
 ·have h1:decide ((s.faces.length:Int)>8)=true:=by simp;omega
  rw[h1];refine pj func229 ntmps229 results229 ?_;exact bc;all_goals exact ai.refl _
 ·have h1:decide ((s.faces.length:Int)>8)=false:=by simp;omega
  have hc:=H0 vt pE s.faces 231 [] (by omega) (fun f _=>KC f);rw[h1];refine pj func229 ntmps229 results229 ?_;exact bc;all_goals exact ai.refl _
theorem QP (v:Vpc):af prog 180 [.agg (al v)] (.v (.bool (kS v))):=by
 unfold kS;cases h1:decide ((v.ranges.length:Int)>4)with
 |true=>
  refine pj func180 ntmps180 results180 ?_;exact bc;all_goals exact ai.refl _
 |false=>
  cases h2:decide ((v.subs.length:Int)>6)with
  |true=>
   refine pj func180 ntmps180 results180 ?_;exact bc;all_goals exact ai.refl _
  |false=>
   have hl:v.subs.length≤6:=by simp at h2;omega
   have hc:=vC me ny v.subs 229 [] (by omega) (fun f _=>Of f);refine pj func180 ntmps180 results180 ?_;exact bc;all_goals exact ai.refl _
theorem vH {v:Vpc}(h:kS v=false):v.ranges.length≤4∧v.subs.length≤6∧∀s∈v.subs,s.faces.length≤8∧∀f∈s.faces,f.addrs.length≤4:=by
 simp only[kS,ny,pE,Zm,decide_eq_false_iff_not,Yh]at h;refine⟨by omega,by omega,fun s hs=>?_⟩;have h1:=h.2.2 s hs;simp only[ZI,Zm,decide_eq_false_iff_not,Yh,decide_eq_true_eq]at h1;exact⟨by omega,fun f hf=>by have h2:=h1.2 f hf;revert h2;simp[pE];omega⟩
def fF (v:Vpc)(p:Pfx):Bool:=v.ranges.any fun r=>dO p r.at_
theorem KD (r:Rng)(p:Pfx):af prog 214 [.agg (bp r),.ept (aN p)] (.v (.bool (dO p r.at_))):=by
 have hi:af prog 43 [.agg (aN p),.agg (aN r.at_)] (.v (.bool (dO p r.at_))):=Cq p r.at_;refine pj func214 ntmps214 results214 ?_;exact bc
theorem rf (v:Vpc)(p:Pfx)(hl:v.ranges.length≤1000000000):af prog 149 [.agg (al v),.agg (aN p)] (.v (.bool (fF v p))):=by
 have hc:=mX mf (fun r=>dO p r.at_) v.ranges 214 [.ept (aN p)] hl (fun r _=>KD r p);refine pj func149 ntmps149 results149 ?_;exact bc
theorem Og (p:Pfx)(x:Int):af prog 25 [.agg (aN p),.v (.int .i64 x)] (.v (.bool (lF p.at_ p.len x))):=eT (cZ func25 (by kernel_rfl) rfl) (by intro d hd;simp at hd;(repeat(first|(obtain rfl:=hd;rfl)|(rcases hd with rfl|hd; · rfl)))) rfl rfl (fun w=>H4 _ _ _ _)
def iW (p:Pfx)(x:Int):Bool:=lF p.at_ p.len x&&(decide (x>p.at_)&&decide (x < p.at_+eG p.len - 1))
theorem Gn (p:Pfx)(x:Int):af prog 219 [.agg (aN p),.v (.int .i64 x)] (.v (.bool (iW p x))):=by
 have hh:=Og p x;unfold iW;cases h1:lF p.at_ p.len x with
 |false=>
  rw[h1]at hh;refine pj func219 ntmps219 results219 ?_;exact bc;all_goals exact ai.refl _
 |true=>
  have hr:p.right=true:=(mo.1 (by rw[←oq];exact h1)).1;obtain⟨b1,b2,b3,b4,-⟩:=p.bd hr;have hs:=fd b1;have Ei:=QM p;rw[tH hr]at Ei;have cl:IntKind.i64.wrap (p.at_+eG p.len)=p.at_+eG p.len:=by rw[IntKind.wrap_i64];omega
  have cD:IntKind.i64.wrap (p.at_+eG p.len - 1)=p.at_+eG p.len - 1:=by rw[IntKind.wrap_i64];omega
  rw[h1]at hh;generalize eG p.len=Z at*;cases h2:decide (x>p.at_)with
  |false=>
   refine pj func219 ntmps219 results219 ?_;exact bc;all_goals exact ai.refl _
  |true=>
   refine pj func219 ntmps219 results219 ?_;exact bc;all_goals exact ai.refl _
def fh {α:Type}(key:α→Int):List α→Bool
 |a::b::l=>decide (key a < key b)&&fh key (b::l)
 |_=>true
theorem eL {α:Type}{key:α→Int}:∀(l:List α),fh key l=true↔∀j (h:j+1 < l.length),key l[j] < key l[j+1]
 |[]=>by simp[fh]
 |[a]=>by simp[fh]
 |a::b::l=>by
  have ih:=eL (key:=key) (b::l);simp only[fh,Xy,decide_eq_true_eq,ih];constructor
  ·rintro⟨h1,h2⟩ j hj;cases j with
   |zero=>exact h1
   |succ j=>exact h2 j (by simpa using hj)
  ·intro h;exact⟨h 0 (by simp),fun j hj=>h (j+1) (by simpa using hj)⟩
theorem f5 {α:Type}{key:α→Int}:∀(l:List α),fh key l=true↔l.Pairwise fun a b=>key a < key b
 |[]=>by simp[fh]
 |[a]=>by simp[fh]
 |a::b::l=>by
  have ih:=f5 (key:=key) (b::l);simp only[fh,Xy,decide_eq_true_eq,ih];constructor
  ·rintro⟨h1,h2⟩;refine YC.2 ⟨fun x hx=>?_,h2⟩;rcases X7.1 hx with rfl|hx
   ·exact h1
   ·have:=(YC.1 h2).1 x hx;omega
  ·intro h;obtain⟨h1,h2⟩:=YC.1 h;exact⟨h1 b (by simp),h2⟩
theorem Cr {α:Type}{enc:α→List D}(eE:∀x,(enc x).length=3)(key:α→Int)(l:List α)(g:Nat)(hl:l.length≤1000000000)(hc:∀x∈l,af prog g [.agg (enc x)] (.v (.int .i64 (key x)))):
 af prog 181 [.sl 3 (l.map enc),.clo g []] (.v (.bool (fh key l))):=by
 refine pj func181 ntmps181 results181 ?_;refine am ?_<;>intros;refine bL ae ak (fun m e h=>∃k:Nat,1≤k∧(∀j (h:j+1 < l.length),j+1 < k→key l[j] < key l[j+1])∧m=l.length - k∧e=[(5,.d (.v (.int .i64 k))),(4,.d (.v (.bool false))),(1,.d (.clo g [])),(0,.d (.sl 3 (l.map enc)))]∧h=[]) _ _ _ ⟨1,XB _,fun j h h1=>by omega,rfl,rfl,rfl⟩ ?_ ?_
 ·exact wf (x:=[]) (hh:=rfl) (he:=⟨rfl,rfl,rfl,rfl,trivial⟩)
 ·rintro m e h ⟨k,pk,bF,hm,rfl,rfl⟩ CL mO;by_cases hlt:k < l.length
  ·obtain⟨x,hx⟩:∃x,l[k - 1]? =some x:=⟨_,Xk (by omega)⟩;obtain⟨y,hy⟩:∃y,l[k]? =some y:=⟨_,Xk hlt⟩;have ew:(k:Int) < (l.length:Int):=by omega
   have cR:=wi k (by omega);have A9:IntKind.i64.wrap ((k:Int) - 1)=((k - 1:Nat):Int):=by rw[IntKind.wrap_i64];omega
   have Wz:=eE x;have WA:=eE y;have WB:(enc x).take 3=enc x:=XN (by omega);have Tk:(enc y).take 3=enc y:=XN (by omega);have jL:=hc x (Xl hx);have Vc:=hc y (Xl hy);have nI:l[k - 1]'(by omega)=x:=by rw[Xk (by omega)]at hx;exact XX.inj hx
   have xq:l[k]=y:=by rw[Xk hlt]at hy;exact XX.inj hy
   replace nI:=Xj nI;replace xq:=Xj xq;replace hm:=Xj hm;cases hge:decide (key x≥key y)with
   |true=>
    have hr:fh key l=false:=by
     rw[YE,ne_eq,eL];intro h;have:=h (k - 1) (by omega);simp only[show k - 1+1=k by omega,nI.out,xq.out]at this;simp at hge;omega
    exact bc;all_goals(rw[hr];exact ai.refl _)
   |false=>
    refine am ?_<;>intros;refine mO _ _ _ _ _ ?_ ⟨k+1,by omega,fun j hj A8=>?_,rfl,rfl,rfl⟩ (wf (x:=[]) (hh:=rfl) (he:=⟨rfl,rfl,rfl,rfl,trivial⟩))
    ·have:=hm.out;omega
    ·rcases XP (j+1) k with h|h
     ·exact bF j hj h
     ·obtain rfl:j=k - 1:=by omega
      simp only[show k - 1+1=k by omega,nI.out,xq.out];simp at hge;omega
  ·have ew:decide ((k:Int) < (l.length:Int))=false:=by simp;omega
   have hr:fh key l=true:=(eL l).2 fun j hj=>bF j hj (by omega);replace hm:=Xj hm;exact bc;all_goals(rw[hr];exact ai.refl _)
theorem H6 {α:Type}{enc:α→List D}(eE:∀x,(enc x).length=4)(key:α→Int)(l:List α)(g:Nat)(hl:l.length≤1000000000)(hc:∀x∈l,af prog g [.agg (enc x)] (.v (.int .i64 (key x)))):
 af prog 183 [.sl 4 (l.map enc),.clo g []] (.v (.bool (fh key l))):=by
 refine pj func183 ntmps183 results183 ?_;refine am ?_<;>intros;refine bL ae ak (fun m e h=>∃k:Nat,1≤k∧(∀j (h:j+1 < l.length),j+1 < k→key l[j] < key l[j+1])∧m=l.length - k∧e=[(5,.d (.v (.int .i64 k))),(4,.d (.v (.bool false))),(1,.d (.clo g [])),(0,.d (.sl 4 (l.map enc)))]∧h=[]) _ _ _ ⟨1,XB _,fun j h h1=>by omega,rfl,rfl,rfl⟩ ?_ ?_
 ·exact wf (x:=[]) (hh:=rfl) (he:=⟨rfl,rfl,rfl,rfl,trivial⟩)
 ·rintro m e h ⟨k,pk,bF,hm,rfl,rfl⟩ CL mO;by_cases hlt:k < l.length
  ·obtain⟨x,hx⟩:∃x,l[k - 1]? =some x:=⟨_,Xk (by omega)⟩;obtain⟨y,hy⟩:∃y,l[k]? =some y:=⟨_,Xk hlt⟩;have ew:(k:Int) < (l.length:Int):=by omega
   have cR:=wi k (by omega);have A9:IntKind.i64.wrap ((k:Int) - 1)=((k - 1:Nat):Int):=by rw[IntKind.wrap_i64];omega
   have Wz:=eE x;have WA:=eE y;have WB:(enc x).take 4=enc x:=XN (by omega);have Tk:(enc y).take 4=enc y:=XN (by omega);have jL:=hc x (Xl hx);have Vc:=hc y (Xl hy);have nI:l[k - 1]'(by omega)=x:=by rw[Xk (by omega)]at hx;exact XX.inj hx
   have xq:l[k]=y:=by rw[Xk hlt]at hy;exact XX.inj hy
   replace nI:=Xj nI;replace xq:=Xj xq;replace hm:=Xj hm;cases hge:decide (key x≥key y)with
   |true=>
    have hr:fh key l=false:=by
     rw[YE,ne_eq,eL];intro h;have:=h (k - 1) (by omega);simp only[show k - 1+1=k by omega,nI.out,xq.out]at this;simp at hge;omega
    exact bc;all_goals(rw[hr];exact ai.refl _)
   |false=>
    refine am ?_<;>intros;refine mO _ _ _ _ _ ?_ ⟨k+1,by omega,fun j hj A8=>?_,rfl,rfl,rfl⟩ (wf (x:=[]) (hh:=rfl) (he:=⟨rfl,rfl,rfl,rfl,trivial⟩))
    ·have:=hm.out;omega
    ·rcases XP (j+1) k with h|h
     ·exact bF j hj h
     ·obtain rfl:j=k - 1:=by omega
      simp only[show k - 1+1=k by omega,nI.out,xq.out];simp at hge;omega
  ·have ew:decide ((k:Int) < (l.length:Int))=false:=by simp;omega
   have hr:fh key l=true:=(eL l).2 fun j hj=>bF j hj (by omega);replace hm:=Xj hm;exact bc;all_goals(rw[hr];exact ai.refl _)
theorem EP {α:Type}{enc:α→List D}(eE:∀x,(enc x).length=2)(key:α→Int)(l:List α)(g:Nat)(hl:l.length≤1000000000)(hc:∀x∈l,af prog g [.agg (enc x)] (.v (.int .i64 (key x)))):
 af prog 234 [.sl 2 (l.map enc),.clo g []] (.v (.bool (fh key l))):=by
 refine pj func234 ntmps234 results234 ?_;refine am ?_<;>intros;refine bL ae ak (fun m e h=>∃k:Nat,1≤k∧(∀j (h:j+1 < l.length),j+1 < k→key l[j] < key l[j+1])∧m=l.length - k∧e=[(5,.d (.v (.int .i64 k))),(4,.d (.v (.bool false))),(1,.d (.clo g [])),(0,.d (.sl 2 (l.map enc)))]∧h=[]) _ _ _ ⟨1,XB _,fun j h h1=>by omega,rfl,rfl,rfl⟩ ?_ ?_
 ·exact wf (x:=[]) (hh:=rfl) (he:=⟨rfl,rfl,rfl,rfl,trivial⟩)
 ·rintro m e h ⟨k,pk,bF,hm,rfl,rfl⟩ CL mO;by_cases hlt:k < l.length
  ·obtain⟨x,hx⟩:∃x,l[k - 1]? =some x:=⟨_,Xk (by omega)⟩;obtain⟨y,hy⟩:∃y,l[k]? =some y:=⟨_,Xk hlt⟩;have ew:(k:Int) < (l.length:Int):=by omega
   have cR:=wi k (by omega);have A9:IntKind.i64.wrap ((k:Int) - 1)=((k - 1:Nat):Int):=by rw[IntKind.wrap_i64];omega
   have Wz:=eE x;have WA:=eE y;have WB:(enc x).take 2=enc x:=XN (by omega);have Tk:(enc y).take 2=enc y:=XN (by omega);have jL:=hc x (Xl hx);have Vc:=hc y (Xl hy);have nI:l[k - 1]'(by omega)=x:=by rw[Xk (by omega)]at hx;exact XX.inj hx
   have xq:l[k]=y:=by rw[Xk hlt]at hy;exact XX.inj hy
   replace nI:=Xj nI;replace xq:=Xj xq;replace hm:=Xj hm;cases hge:decide (key x≥key y)with
   |true=>
    have hr:fh key l=false:=by
     rw[YE,ne_eq,eL];intro h;have:=h (k - 1) (by omega);simp only[show k - 1+1=k by omega,nI.out,xq.out]at this;simp at hge;omega
    exact bc;all_goals(rw[hr];exact ai.refl _)
   |false=>
    refine am ?_<;>intros;refine mO _ _ _ _ _ ?_ ⟨k+1,by omega,fun j hj A8=>?_,rfl,rfl,rfl⟩ (wf (x:=[]) (hh:=rfl) (he:=⟨rfl,rfl,rfl,rfl,trivial⟩))
    ·have:=hm.out;omega
    ·rcases XP (j+1) k with h|h
     ·exact bF j hj h
     ·obtain rfl:j=k - 1:=by omega
      simp only[show k - 1+1=k by omega,nI.out,xq.out];simp at hge;omega
  ·have ew:decide ((k:Int) < (l.length:Int))=false:=by simp;omega
   have hr:fh key l=true:=(eL l).2 fun j hj=>bF j hj (by omega);replace hm:=Xj hm;exact bc;all_goals(rw[hr];exact ai.refl _)
theorem H7 (l:List Int)(g:Nat)(hl:l.length≤1000000000)(hc:∀x,af prog g [.v (.int .i64 x)] (.v (.int .i64 x))):
 af prog 232 [.sl 1 (l.map cy),.clo g []] (.v (.bool (fh (fun x=>x) l))):=by
 refine pj func232 ntmps232 results232 ?_;refine am ?_<;>intros;refine bL ae ak (fun m e h=>∃k:Nat,1≤k∧(∀j (h:j+1 < l.length),j+1 < k→l[j] < l[j+1])∧m=l.length - k∧e=[(5,.d (.v (.int .i64 k))),(4,.d (.v (.bool false))),(1,.d (.clo g [])),(0,.d (.sl 1 (l.map cy)))]∧h=[]) _ _ _ ⟨1,XB _,fun j h h1=>by omega,rfl,rfl,rfl⟩ ?_ ?_
 ·exact wf (x:=[]) (hh:=rfl) (he:=⟨rfl,rfl,rfl,rfl,trivial⟩)
 ·rintro m e h ⟨k,pk,bF,hm,rfl,rfl⟩ CL mO;by_cases hlt:k < l.length
  ·obtain⟨x,hx⟩:∃x,l[k - 1]? =some x:=⟨_,Xk (by omega)⟩;obtain⟨y,hy⟩:∃y,l[k]? =some y:=⟨_,Xk hlt⟩;have ew:(k:Int) < (l.length:Int):=by omega
   have cR:=wi k (by omega);have A9:IntKind.i64.wrap ((k:Int) - 1)=((k - 1:Nat):Int):=by rw[IntKind.wrap_i64];omega
   have jL:=hc x;have Vc:=hc y;have nI:l[k - 1]'(by omega)=x:=by rw[Xk (by omega)]at hx;exact XX.inj hx
   have xq:l[k]=y:=by rw[Xk hlt]at hy;exact XX.inj hy
   replace nI:=Xj nI;replace xq:=Xj xq;replace hm:=Xj hm;cases hge:decide (x≥y)with
   |true=>
    have hr:fh (fun x=>x) l=false:=by
     rw[YE,ne_eq,eL];intro h;have:=h (k - 1) (by omega);simp only[show k - 1+1=k by omega,nI.out,xq.out]at this;simp at hge;omega
    exact bc;all_goals(rw[hr];exact ai.refl _)
   |false=>
    refine am ?_<;>intros;refine mO _ _ _ _ _ ?_ ⟨k+1,by omega,fun j hj A8=>?_,rfl,rfl,rfl⟩ (wf (x:=[]) (hh:=rfl) (he:=⟨rfl,rfl,rfl,rfl,trivial⟩))
    ·have:=hm.out;omega
    ·rcases XP (j+1) k with h|h
     ·exact bF j hj h
     ·obtain rfl:j=k - 1:=by omega
      simp only[show k - 1+1=k by omega,nI.out,xq.out];simp at hge;omega
  ·have ew:decide ((k:Int) < (l.length:Int))=false:=by simp;omega
   have hr:fh (fun x=>x) l=true:=(eL l).2 fun j hj=>bF j hj (by omega);replace hm:=Xj hm;exact bc;all_goals(rw[hr];exact ai.refl _)
def gA:List Pfx→List Pfx→Bool
 |_,[]=>true
 |pre,p::l=>!(pre.any p.meets)&&gA (pre++[p]) l
theorem KE (q p:Pfx):af prog 236 [.agg (aN q),.ept (aN p)] (.v (.bool (p.meets q))):=by
 have hm:af prog 19 [.agg (aN p),.agg (aN q)] (.v (.bool (p.meets q))):=oZ p q;refine pj func236 ntmps236 results236 ?_;exact bc
theorem jS {α:Type}{l:List α}{k:Nat}{x:α}(h:l[k]? =some x):l.drop k=x::l.drop (k+1):=by
 obtain⟨hk,rfl⟩:=Xn.1 h;exact YQ hk
theorem Gp (l:List Pfx)(hl:l.length≤1000000000):af prog 186 [.sl 2 (l.map aN)] (.v (.bool (gA [] l))):=by
 refine pj func186 ntmps186 results186 ?_;refine am ?_<;>intros;refine bo ae ak l (fun k=>gA [] l=gA (l.take k) (l.drop k)) (fun k=>[(7,.d (.v (.int .i64 k))),(6,.d (.v (.int .i64 l.length))),(5,.d (.sl 2 (l.map aN))),(2,.d (.v (.bool false))),(0,.d (.sl 2 (l.map aN)))]) (fun _=>[]) rfl (wf (x:=[]) (hh:=rfl) (he:=⟨rfl,rfl,rfl,rfl,rfl,trivial⟩)) ?_ ?_
 ·intro k p hp hk hI C hC;have dM:(k:Int) < (l.length:Int):=by omega
  have cR:=wi k (by omega);have ns:=tE B8 p.meets (l.take k) 236 [.ept (aN p)] (by rw[Xq];omega) (fun q _=>KE q p);rw[ZH]at ns;rw[jS hp]at hI;simp only[gA,←ag hp]at hI;replace hI:=Xj hI;have uI:k≤l.length:=by omega
  cases ha:(l.take k).any p.meets with
  |true=>
   rw[ha]at ns;refine am ?_<;>intros;all_goals(rw[hI.out,ha];exact ai.refl _)
  |false=>
   rw[ha]at ns;refine am ?_<;>intros;exact hC _ _ (by rw[hI.out,ha];rfl) (wf)
 ·intro hI C;rw[Y7]at hI;replace hI:=Xj hI;refine am ?_<;>intros;all_goals(rw[hI.out];exact ai.refl _)
end Go.Proofs.YtmicljipaiohkaaGreat
