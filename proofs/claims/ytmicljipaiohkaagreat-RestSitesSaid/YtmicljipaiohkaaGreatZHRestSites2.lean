/- Texts of this work, joined. -/
import Derived.Test.YtmicljipaiohkaaGreatZHRestSites1
import Derived.Deep.LoopGhost
import Derived.Tactics2
import Derived.WalkLawsBesides
import Derived.WalkSpells
import Derived.KernelRfl
import Derived.Deep.QuietTactic
import Derived.BigQuiet
import Derived.Outline
import Derived.Lib.Hide
import Derived.Deep.DeepFit
import Derived.Test.YtmicljipaiohkaaGreatProg
import Derived.Laws.BitsAllLaws
import Derived.Laws.BitsLemmas
import Derived.Deep.RegionHeld3
set_option linter.unusedSimpArgs false
set_option linter.unusedVariables false
set_option maxRecDepth 100000
set_option maxHeartbeats 16000000
namespace Go.Proofs.YtmicljipaiohkaaGreat
open Go Go.RowKit Go.Proofs.Tryz
open Go.Lib renaming hid → Xi
open _root_.List renaming getElem?_eq_getElem → Xj, mem_of_getElem? → Xk, map_cons → Xl, getElem?_eq_some_iff → Xm, map_append → Xn, length_take → Xo, map_nil → Xp, take_length → Xq, getElem?_map → Xr, length_map → Xs, length_cons → XC, all_eq_true → XD, mem_map → XF, pairwise_iff_getElem → XH, getElem?_append_right → XI, getD_eq_getElem?_getD → XJ, findIdx?_eq_some_iff_getElem → XK, take_of_length_le → XM, getElem?_eq_none → XN, length_drop → XO, getElem?_take_of_lt → XP, setIfInBounds_toArray → XQ, any_eq_true → XR, replicate → XS, set_cons_zero → XT, length_append → XV, getElem?_append_left → XW, length_nil → XX, mem_cons → XY, mem_iff_getElem → XZ, mem_append → X0, set_cons_succ → X2, append_assoc → X3, range → X4, cons_append → X5, getElem_of_mem → X7, nil_append → X8, eq_nil_of_length_eq_zero → X9, mem_singleton → Yc, mem_of_mem_drop → Yd, take → Ye, mem_of_mem_take → Yf, ext_getElem? → Yg, any_eq_false → Yh, getElem?_drop → Yk, getElem_mem → Yl, take_append_of_le_length → Ym, findIdx?_eq_none_iff → Yn, set_append_right → Yu, append_nil → Yv, getElem?_cons_succ → Yw, pairwise_cons → YA, size_toArray → YF, eraseIdx_eq_take_drop_succ → YG, drop_eq_getElem_cons → YN, mem_range → YO, pairwise_append → YQ, length_set → YS, filter_append → YT, take_append_drop → YV, filter_eq_self → YY, map_congr_left → Y0, all_eq_false → Y2, pairwise_map → Y3, drop_length → Y6, mem_map_of_mem → Y7, length_filter_le → Y8, length_pos_iff → Zb, getElem?_toArray → Zc, length → Zm, not_mem_nil → Zn, flatMap_append → Zu, getElem_take → ZD, take_succ_cons → ZF, map_take → ZK, contains_iff_mem → ZO, all_append → ZR, mem_append_left → ZS, map_set → ZU, getElem?_range → ZZ, map_flatten → Z1, map_map → Z4, not_of_lt_findIdx → Z5, take_zero → p', findIdx_getElem → z', getElem_map → I', nodup_append → Z', take_sublist → _a, mem_toArray → _m
open Go.World renaming size_alloc → Xt, heap_drewN → Xu, size_drew → Xy, cell? → YL, cell?_of_block → Zk
open _root_.Bool renaming and_eq_true → Xv, eq_iff_iff → Yi, true_and → Yp, and_self → Yq, and_true → Yx, false_eq_true → Yz, eq_false_iff → YB, or_eq_false_iff → Zl, not_eq_true' → Zq, not_eq_true → ZM, and_eq_false_iff → ZN, false_or → ZY, not_true → Z7, and_assoc → _b
open _root_.Nat renaming zero_add → Xw, reduceAdd → Xz, le_refl → XA, zero_le → XE, add_zero → XG, lt_or_ge → XL, lt_of_lt_of_le → Ya, le_trans → Yj, mul_le_mul_right → Yt, not_lt_zero → Yy, sub_self → YE, le_of_eq → YW, lt_trichotomy → Y9, sub_zero → Zs, min_self → Zt, eq_zero_or_pos → Zx, add_assoc → ZI, reduceLT → ZV, le_of_lt → G', and_two_pow_sub_one_eq_mod → _e, one_le_two_pow → _i
open _root_.Option renaming map_eq_some_iff → XB, some → XU, map_some → Yb, getD_some → YD, isSome_some → YI, bind_some → Y5, isSome_none → Za, isSome_iff_exists → Ze, map_none → Zf
open _root_.Array renaming getElem?_toList → X6, getElem?_eq_some_iff → Yo, getD_eq_getD_getElem? → Ys, getElem?_eq_none → YJ, replicate → Y1, mem_of_getElem? → Z8, toList_map → F', toArray_toList → _f, range → _k
open _root_.Int renaming dvd_of_emod_eq_zero → YH, lt_irrefl → Zz, le_refl → ZJ, toNat_of_nonneg → Z0, fdiv_eq_ediv_of_nonneg → A', lt_or_le → H', dvd_trans → N'
theorem a3A {p:Prop}(h:p:=by
 unfold Op.equal;show (Op.equalIn (9999+1) t _ _).run P w=_;rw[Op.equalIn,Sem.run_bind,run_underlying h];rfl):p:=h
theorem a4q {p:Prop}(h:p:=by
 have:=tk.kind;rw[hb]at this;cases d<;>simp[qA]at this;exact⟨_,rfl⟩):p:=h
theorem gV:∀(l:List Chunk),az l l.length= .none
 |[]=>rfl
 |_::l=>gV l
structure TabOK (P:Program)(T:Nat->Option TI)(Q:Nat->Option Nat):Prop where
 t:∀t ti,T t=some ti->aV P t=some ti
 q:∀t n,Q t=some n->Dl P t n
 m:∀t ti n s,T t=some ti->ti.mp=some (n,s)->MapOK P t n s
theorem zF {P:Program}{t e:Nat}(h:P.underlying t=some (.pointer e))(a:Addr)(w:World):(Op.equal t (.pointer (some a)) (.pointer none)).run P w= .ok false w:=a3A
theorem zG {P:Program}{t e:Nat}(h:P.underlying t=some (.pointer e))(w:World):(Op.equal t (.pointer none) (.pointer none)).run P w= .ok true w:=a3A
theorem AI [Flo]{X:Cfg}{ops:Array Oper}{s:FS}{o:Oper}(hd:∀d,o.dst=some d->d < X.n){ti:TI}{op:BinOp}{t t':Nat}{x y:Operand}{r:Bool}(ho:o.op= .binOp op t x y t')(ht:aV X.P t=some ti)(hb:ti.kind=3)(hx:ev s x= .d (.v (.pointer none)))(hy:ev s y= .d (.v (.pointer none)))
 (hr:(op= .eql/\r=true)\/(op= .neq/\r=false)):bH X ops s o {pv:= .d (.v (.bool r))}:=
 aM hd fun s' he _ a w c hc=>by
  have h1:=di hc ((he x (by simp[ho,Op.operands])).trans hx);have h2:=di hc ((he y (by simp[ho,Op.operands])).trans hy);obtain⟨i,d,z,tk⟩:=iW ht;obtain⟨el,rfl⟩:∃el,d= .pointer el:=a4q
  refine⟨.bool r,?_,.d _ _ (.v _)⟩;rcases hr with⟨rfl,rfl⟩|⟨rfl,rfl⟩<;>simp[execOp,ho,h1,h2,eqGuard,binOp,zG tk.und]
theorem vT {P:Program}{t e:Nat}(h:P.underlying t=some (.slice e))(a:Option Addr)(n c n' c':Nat)(w:World):(Op.equal t (.slice a n c) (.slice none n' c')).run P w= .ok a.isNone w:=by
 unfold Op.equal;show (Op.equalIn (9999+1) t _ _).run P w=_;rw[Op.equalIn,Sem.run_bind,run_underlying h];cases a<;>rfl
theorem sg [Flo]{X:Cfg}{ops:Array Oper}{s:FS}{o:Oper}(hd:∀d,o.dst=some d->d < X.n){ti:TI}{op:BinOp}{t t' n' c':Nat}{x y:Operand}{r z:Bool}(ho:o.op= .binOp op t x y t')(ht:aV X.P t=some ti)(hb:ti.elem.isSome=true)
 (hx:(∃sz a l,ev s x= .d (.sl sz (a::l))/\z=false)\/∃ao n c,ev s x= .d (.v (.slice ao n c))/\z=ao.isNone) (hy:ev s y= .d (.v (.slice none n' c')))
 (hr:(op= .eql/\r=z)\/(op= .neq/\r=!z)):bH X ops s o {pv:= .d (.v (.bool r))}:=
 aM hd fun s' he _ a w c hc=>by
  have e1:=bI hc x;rw[he x (by simp[ho,Op.operands])]at e1;have h2:=di hc ((he y (by simp[ho,Op.operands])).trans hy);generalize hu:a.eval x=u at e1;obtain⟨i,d,zz,tk⟩:=iW ht;obtain⟨el,rfl⟩:∃el,d= .slice el:=by
   have:=tk.elem;obtain⟨el,hel⟩:=Ze.1 hb;rw[hel]at this;cases d<;>simp[gT]at this;exact⟨_,rfl⟩
  obtain⟨ao,n,cap,rfl,hz⟩:∃ao n cap,u= .slice ao n cap/\z=ao.isNone:=by
   rcases hx with⟨sz,b,l,hx,rfl⟩|⟨ao,n,cap,hx,rfl⟩
   ·rw[hx]at e1;have e1:=ck e1;cases e1 with
    |sl _ _ b off cap=>exact⟨_,_,cap,rfl,rfl⟩
   ·rw[hx]at e1;have e1:=ck e1;cases e1;exact⟨_,_,_,rfl,rfl⟩
  subst hz;refine⟨.bool r,?_,.d _ _ (.v _)⟩;rcases hr with⟨rfl,rfl⟩|⟨rfl,rfl⟩<;>simp[execOp,ho,hu,h2,eqGuard,binOp,vT tk.und]
theorem lD [Flo]{X:Cfg}{ops:Array Oper}{s:FS}{o:Oper}(hd:∀d,o.dst=some d->d < X.n){ti:TI}{op:BinOp}{t t':Nat}{x y:Operand}{r:Bool}(ho:o.op= .binOp op t x y t')(ht:aV X.P t=some ti)(hb:ti.kind=3)
 (hx:(∃k off,ev s x= .ptr k off)\/(∃k g sz i j,ev s x= .rp k g sz i j)\/∃ds,ev s x= .d (.ept ds)) (hy:ev s y= .d (.v (.pointer none)))
 (hr:(op= .eql/\r=false)\/(op= .neq/\r=true)):bH X ops s o {pv:= .d (.v (.bool r))}:=
 aM hd fun s' he _ a w c hc=>by
  have h1:∃ad,a.eval x= .pointer (some ad):=by
   have:=bI hc x;rw[he x (by simp[ho,Op.operands])]at this;generalize a.eval x=u at this;rcases hx with⟨k,off,hx⟩|⟨k,g,sz,i,j,hx⟩|⟨ds,hx⟩<;>rw[hx]at this
   ·cases this;exact⟨_,rfl⟩
   ·cases this;exact⟨_,rfl⟩
   ·have:=ck this;cases this;exact⟨_,rfl⟩
  obtain⟨ad,h1⟩:=h1;have h2:=di hc ((he y (by simp[ho,Op.operands])).trans hy);obtain⟨i,d,z,tk⟩:=iW ht;obtain⟨el,rfl⟩:∃el,d= .pointer el:=a4q
  refine⟨.bool r,?_,.d _ _ (.v _)⟩;rcases hr with⟨rfl,rfl⟩|⟨rfl,rfl⟩<;>simp[execOp,ho,h1,h2,eqGuard,binOp,zF tk.und]
theorem zH [Flo]{X:Cfg}{ops:Array Oper}{s:FS}{o:Oper}(hd:∀d,o.dst=some d->d < X.n){x:Operand}{k g sz i j:Nat}(ho:o.op= .nilCheck x)(hx:ev s x= .rp k g sz i j):bH X ops s o {pv:= .rp k g sz i j}:=
 aM hd fun s' he _ a w c hc=>by
  have:=bI hc x;rw[he x (by simp[ho,Op.operands]),hx]at this;generalize hu:a.eval x=u at this;cases this with
  |rp _ _ _ _ _ b n cap h=>exact⟨_,by simp[execOp,ho,hu],.rp k g sz i j b n cap h⟩
section
variable {X:Cfg}{ops:Array Oper}{e:bU}{hl:List Chunk}{o:Oper}{T:Nat->Option TI}{Q:Nat->Option Nat}(bY:TabOK X.P T Q)(hd:∀d,o.dst=some d->d < X.n){p:PV}{eff:List (Nat × Chunk)}{touch:List Nat}{side:Prop}
include hd
theorem MA [Flo]{x y z:Operand}(ho:o.op= .pick x y z)(h:sd (dA e x) (dA e y) (dA e z)= .res p eff touch side)(_hs:side):bH X ops (bs e hl) o {pv:=p,eff:=eff,touch:=touch}:=by
 unfold sd at h;split at h
 ·rename_i t hx;have key:=Ql (X:=X) (ops:=ops) (s:=bs e hl) hd ho ((aG e hl x).trans hx);rw[aG,aG]at key;split at h
  ·rename_i a b ha hb;cases h;rw[ha,hb]at key;cases t<;>exact key
  ·cases h;exact key
 ·cases h
theorem TR [Flo]{op:UnOp}{t:Nat}{x:Operand}(ho:o.op= .unOp op t x)(h:V3 op (dA e x)= .res p eff touch side)(_hs:side):bH X ops (bs e hl) o {pv:=p,eff:=eff,touch:=touch}:=by
 unfold V3 at h;split at h
 ·rename_i b hx;cases h;exact TK hd ho ((aG e hl x).trans hx)
 ·rename_i k n hx;cases h;exact TL hd ho ((aG e hl x).trans hx)
 ·cases h
theorem Qt [Flo]{x:Operand}(ho:o.op= .nilCheck x)(h:Mu (dA e x)= .res p eff touch side)(_hs:side):bH X ops (bs e hl) o {pv:=p,eff:=eff,touch:=touch}:=by
 unfold Mu at h;split at h
 ·rename_i k off hx;cases h;have:=uU (X:=X) (ops:=ops) (s:=bs e hl) hd ho (.inl ⟨k,off,(aG e hl x).trans hx⟩);rwa [aG,hx]at this
 ·rename_i k g sz i j hx;cases h;exact zH hd ho ((aG e hl x).trans hx)
 ·rename_i cs hx;cases h;have:=uU (X:=X) (ops:=ops) (s:=bs e hl) hd ho (.inr ⟨cs,(aG e hl x).trans hx⟩);rwa [aG,hx]at this
 ·cases h
include bY in
theorem Qu [Flo]{op:BinOp}{t t':Nat}{x y:Operand}(ho:o.op= .binOp op t x y t')(h:Mv (T t) (Q t) op (dA e x) (dA e y)= .res p eff touch side)(hs:side):bH X ops (bs e hl) o {pv:=p,eff:=eff,touch:=touch}:=by
 unfold Mv at h;split at h
 ·rename_i k m k' n hx hy;split at h
  ·rename_i hk;subst hk;split at h
   ·cases h;exact Au hd ho ((aG e hl x).trans hx) ((aG e hl y).trans hy) hs (.inl ⟨rfl,rfl⟩)
   ·cases h;exact Au hd ho ((aG e hl x).trans hx) ((aG e hl y).trans hy) hs (.inr ⟨rfl,rfl⟩)
   ·split at h
    ·rename_i r hr;cases h;exact TM hd ho ((aG e hl x).trans hx) ((aG e hl y).trans hy) hr
    ·cases h
  ·split at h
   ·split at h
    ·rename_i r hr;cases h;exact DL hd ho (.inl rfl) ((aG e hl x).trans hx) ((aG e hl y).trans hy) hr
    ·cases h
   ·split at h
    ·rename_i r hr;cases h;exact DL hd ho (.inr rfl) ((aG e hl x).trans hx) ((aG e hl y).trans hy) hr
    ·cases h
   ·cases h
 ·rename_i m n hx hy;split at h
  ·cases h;exact JH hd ho ((aG e hl x).trans hx) ((aG e hl y).trans hy) hs
  ·cases h;exact DF hd ho ((aG e hl x).trans hx) ((aG e hl y).trans hy) (.inl ⟨rfl,rfl⟩)
  ·cases h;exact DF hd ho ((aG e hl x).trans hx) ((aG e hl y).trans hy) (.inr ⟨rfl,rfl⟩)
  ·cases h
 ·rename_i m n hx hy;split at h
  ·rename_i ti ht;cases h;exact Av hd ho (bY.t t _ ht) hs ((aG e hl x).trans hx) ((aG e hl y).trans hy) (.inl ⟨rfl,rfl⟩)
  ·rename_i ti ht;cases h;exact Av hd ho (bY.t t _ ht) hs ((aG e hl x).trans hx) ((aG e hl y).trans hy) (.inr ⟨rfl,rfl⟩)
  ·cases h
 ·rename_i hx hy;split at h
  ·rename_i ti ht;cases h;exact AI hd ho (bY.t t _ ht) hs ((aG e hl x).trans hx) ((aG e hl y).trans hy) (.inl ⟨rfl,rfl⟩)
  ·rename_i ti ht;cases h;exact AI hd ho (bY.t t _ ht) hs ((aG e hl x).trans hx) ((aG e hl y).trans hy) (.inr ⟨rfl,rfl⟩)
  ·cases h
 ·rename_i k off hx hy;split at h
  ·rename_i ti ht;cases h;exact lD hd ho (bY.t t _ ht) hs (.inl ⟨k,off,(aG e hl x).trans hx⟩) ((aG e hl y).trans hy) (.inl ⟨rfl,rfl⟩)
  ·rename_i ti ht;cases h;exact lD hd ho (bY.t t _ ht) hs (.inl ⟨k,off,(aG e hl x).trans hx⟩) ((aG e hl y).trans hy) (.inr ⟨rfl,rfl⟩)
  ·cases h
 ·rename_i k g sz i j hx hy;split at h
  ·rename_i ti ht;cases h;exact lD hd ho (bY.t t _ ht) hs (.inr (.inl ⟨k,g,sz,i,j,(aG e hl x).trans hx⟩)) ((aG e hl y).trans hy) (.inl ⟨rfl,rfl⟩)
  ·rename_i ti ht;cases h;exact lD hd ho (bY.t t _ ht) hs (.inr (.inl ⟨k,g,sz,i,j,(aG e hl x).trans hx⟩)) ((aG e hl y).trans hy) (.inr ⟨rfl,rfl⟩)
  ·cases h
 ·rename_i ds hx hy;split at h
  ·rename_i ti ht;cases h;exact lD hd ho (bY.t t _ ht) hs (.inr (.inr ⟨ds,(aG e hl x).trans hx⟩)) ((aG e hl y).trans hy) (.inl ⟨rfl,rfl⟩)
  ·rename_i ti ht;cases h;exact lD hd ho (bY.t t _ ht) hs (.inr (.inr ⟨ds,(aG e hl x).trans hx⟩)) ((aG e hl y).trans hy) (.inr ⟨rfl,rfl⟩)
  ·cases h
 ·rename_i sz a l n' c' hx hy;split at h
  ·rename_i ti ht;cases h;exact sg hd ho (bY.t t _ ht) hs (.inl ⟨_,_,_,(aG e hl x).trans hx,rfl⟩) ((aG e hl y).trans hy) (.inl ⟨rfl,rfl⟩)
  ·rename_i ti ht;cases h;exact sg hd ho (bY.t t _ ht) hs (.inl ⟨_,_,_,(aG e hl x).trans hx,rfl⟩) ((aG e hl y).trans hy) (.inr ⟨rfl,rfl⟩)
  ·cases h
 ·rename_i ao n c n' c' hx hy;split at h
  ·rename_i ti ht;cases h;exact sg hd ho (bY.t t _ ht) hs (.inr ⟨_,_,_,(aG e hl x).trans hx,rfl⟩) ((aG e hl y).trans hy) (.inl ⟨rfl,rfl⟩)
  ·rename_i ti ht;cases h;exact sg hd ho (bY.t t _ ht) hs (.inr ⟨_,_,_,(aG e hl x).trans hx,rfl⟩) ((aG e hl y).trans hy) (.inr ⟨rfl,rfl⟩)
  ·cases h
 ·rename_i ds es hx hy;split at h
  ·rename_i n xs ys hq h1 h2;split at h
   ·cases h;exact Dm hd ho (bY.q t n hq) (.inl rfl) ((aG e hl x).trans hx) ((aG e hl y).trans hy) h1 h2 hs.1 hs.2
   ·cases h;have:=Dm (X:=X) (ops:=ops) (s:=bs e hl) hd ho (bY.q t n hq) (.inr rfl) ((aG e hl x).trans hx) ((aG e hl y).trans hy) h1 h2 hs.1 hs.2;simpa using this
   ·cases h
  ·cases h
 ·cases h
include bY in
theorem JJ [Flo]{t f:Nat}{x:Operand}(ho:o.op= .fieldAddr t x f)(h:wW (T t) f (dA e x)= .res p eff touch side)(hs:side):bH X ops (bs e hl) o {pv:=p,eff:=eff,touch:=touch}:=by
 unfold wW at h;split at h
 ·rename_i ti ht;split at h
  ·rename_i off sz hf;split at h
   ·rename_i ds hx;cases h;exact Me hd ho (bY.t t ti ht) hf hs ((aG e hl x).trans hx)
   ·rename_i k o' hx;cases h;exact Dp hd ho (bY.t t ti ht) hf hs ((aG e hl x).trans hx)
   ·rename_i k g sz' i j hx;cases h;exact Gh hd ho (bY.t t ti ht) hf hs ((aG e hl x).trans hx)
   ·cases h
  ·cases h
 ·cases h
omit hd in
theorem tZ {α:Type}{l:List α}{j:Nat}{d:α}{r:List α}(h:l.drop j=d::r):l[j]? =some d:=by
 have:=Yk (xs:=l) (i:=j) (j:=0);rw[h]at this;simpa using this.symm
include bY in
theorem MB [Flo]{t:Nat}{x:Operand}(ho:o.op= .load t x)(h:DM (T t) (az hl) (dA e x)= .res p eff touch side)(hs:side):bH X ops (bs e hl) o {pv:=p,eff:=eff,touch:=touch}:=by
 unfold DM at h;split at h
 ·rename_i ti ht;have ht:=bY.t t ti ht;split at h
  ·rename_i ds hx;have hx:=(aG e hl x).trans hx;split at h
   ·rename_i qr;cases h;exact Dq hd ho ht hx hs (.inl ⟨qr,rfl⟩)
   ·rename_i qr;split at h
    ·rename_i d r;cases h;have hs':ti.size=1:=hs;exact Dq hd ho ht hx (by rw[hs'];simp) (.inr ⟨by simpa using qr,hs',rfl⟩)
    ·cases h
  ·rename_i k off hx;have hx:=(aG e hl x).trans hx;split at h
   ·rename_i TT cells hk;split at h
    ·rename_i qr;cases h;exact Dr hd ho ht hx (s:=bs e hl) hk hs (.inl ⟨qr,rfl⟩)
    ·rename_i qr;split at h
     ·rename_i q r hc;cases h;have hs':ti.size=1:=hs;have hc':=tZ hc;exact Dr hd ho ht hx (s:=bs e hl) hk (by have:=(Xm.1 hc').1;omega) (.inr ⟨by simpa using qr,hs',hc'⟩)
     ·cases h
   ·cases h
  ·rename_i k g sz i j hx;have hx:=(aG e hl x).trans hx;split at h
   ·rename_i E sz' g' rows hk;split at h
    ·rename_i row b9;split at h
     ·rename_i qr;cases h;obtain⟨rfl,rfl,hj⟩:=hs;exact Ay hd ho ht hx (s:=bs e hl) hk b9 hj (.inl ⟨qr,rfl⟩)
     ·rename_i qr;split at h
      ·rename_i d r hc;cases h;obtain⟨rfl,rfl,hs',hj⟩:=hs;have hc':=tZ hc;exact Ay hd ho ht hx (s:=bs e hl) hk b9 aa (.inr ⟨by simpa using qr,hs',hc'⟩)
      ·cases h
    ·cases h
   ·cases h
  ·cases h
 ·cases h
include bY in
theorem Qv [Flo]{op:BinOp}{t t':Nat}{x:Operand}(ho:o.op= .binOp op t x (.const .nilIface) t')(h:Mw (T t) op (dA e x)= .res p eff touch side)(hs:side):bH X ops (bs e hl) o {pv:=p,eff:=eff,touch:=touch}:=by
 unfold Mw at h;split at h
 ·rename_i ti ht hx;cases h;exact sb hd ho (bY.t _ _ ht) hs ((aG e hl x).trans hx) (.inl rfl) (.inl ⟨rfl,rfl⟩)
 ·rename_i ti ht hx;cases h;exact sb hd ho (bY.t _ _ ht) hs ((aG e hl x).trans hx) (.inl rfl) (.inr ⟨rfl,rfl⟩)
 ·rename_i ti ht hx;cases h;exact sb hd ho (bY.t _ _ ht) hs ((aG e hl x).trans hx) (.inr rfl) (.inl ⟨rfl,rfl⟩)
 ·rename_i ti ht hx;cases h;exact sb hd ho (bY.t _ _ ht) hs ((aG e hl x).trans hx) (.inr rfl) (.inr ⟨rfl,rfl⟩)
 ·cases h
include bY in
theorem JK [Flo]{t:Nat}{x y:Operand}(ho:o.op= .indexAddr t x y)(h:wX T (T t) (az hl) (dA e x) (dA e y)= .res p eff touch side)(hs:side):bH X ops (bs e hl) o {pv:=p,eff:=eff,touch:=touch}:=by
 unfold wX at h;split at h
 ·rename_i ti ht;split at h
  ·rename_i el he;split at h
   ·rename_i te iD;split at h
    ·rename_i kd n hy;have hy:=(aG e hl y).trans hy;split at h
     ·rename_i sz rows hx;split at h
      ·rename_i row b9;cases h;exact Mh hd ho (bY.t t ti ht) he (bY.t el te iD) hs.1 ((aG e hl x).trans hx) hy hs.2 b9
      ·cases h
     ·rename_i k g hx;split at h
      ·rename_i e' sz g' rows hk;cases h;obtain⟨rfl,rfl,h1,h2,h3⟩:=hs;exact Du hd ho (bY.t t ti ht) he (bY.t _ te iD) h1 ((aG e hl x).trans hx) (s:=bs e hl) hk hy h2 h3
      ·cases h
     ·rename_i k g sz st m hx;cases h;exact DA hd ho (bY.t t ti ht) he (bY.t _ te iD) hs.1 ((aG e hl x).trans hx) (s:=bs e hl) hy hs.2.1 hs.2.2
     ·cases h
    ·cases h
   ·cases h
  ·split at h
   ·rename_i m el k off kd n ha hx hy;split at h
    ·rename_i te iD;cases h;exact Gu hd ho (bY.t t ti ht) ha (bY.t el te iD) rfl ((aG e hl x).trans hx) ((aG e hl y).trans hy) hs.1 hs.2
    ·cases h
   ·cases h
 ·cases h
include bY in
theorem JL [Flo]{t:Nat}{x y:Operand}(ho:o.op= .index t x y)(h:wY T (T t) (dA e x) (dA e y)= .res p eff touch side)(hs:side):bH X ops (bs e hl) o {pv:=p,eff:=eff,touch:=touch}:=by
 unfold wY at h;split at h
 ·rename_i ti ht;split at h
  ·rename_i a kd n hx hy;cases h;exact DG hd ho (bY.t t ti ht) hs.1 ((aG e hl x).trans hx) ((aG e hl y).trans hy) hs.2.1 hs.2.2
  ·rename_i ds kd n hx hy;split at h
   ·rename_i m el ha;split at h
    ·rename_i te iD;split at h
     ·rename_i q hq;cases h;exact DJ hd ho (bY.t t ti ht) ha (bY.t el te iD) hs.1 hs.2.1 ((aG e hl x).trans hx) ((aG e hl y).trans hy) hs.2.2.1 hs.2.2.2 hq
     ·cases h
    ·cases h
   ·cases h
  ·cases h
 ·cases h
theorem MC [Flo]{x:Operand}{i:Nat}(ho:o.op= .extract x i)(h:AH (dA e x) i= .res p eff touch side)(_hs:side):bH X ops (bs e hl) o {pv:=p,eff:=eff,touch:=touch}:=by
 unfold AH at h;split at h
 ·rename_i ds hx;split at h
  ·rename_i d hi;cases h;exact Gg hd ho ((aG e hl x).trans hx) hi
  ·cases h
 ·rename_i ds hx;split at h
  ·rename_i d hi;cases h;exact Ds hd ho ((aG e hl x).trans hx) hi
  ·cases h
 ·cases h
omit hd in
theorem t5:∀{parts:List (Nat × Operand)}{pd:List (Nat × List PV)},tX e parts=some pd->pd.length=parts.length/\∀(j:Nat) (i:Nat) (x:Operand),parts[j]? =some (i,x)->pd[j]? =some (i,cF (dA e x))/\wM (dA e x)=true
 |[],pd,h=>by cases h;simp
 |(i,x)::l,pd,h=>by
  unfold tX at h;split at h
  ·rename_i bD;split at h
   ·rename_i pd' h2;cases h;obtain⟨q1,q2⟩:=t5 h2;refine⟨by simp[q1],fun j i' y hj=>?_⟩;cases j with
    |zero=>
     simp at hj;obtain⟨rfl,rfl⟩:=hj;exact⟨rfl,bD⟩
    |succ j=>simpa using q2 j i' y (by simpa using hj)
   ·cases h
  ·cases h
include bY in
theorem JM [Flo]{t:Nat}{parts:List (Nat × Operand)}(ho:o.op= .build t ⟨parts⟩)(h:wZ T (T t) e parts= .res p eff touch side)(_hs:side):bH X ops (bs e hl) o {pv:=p,eff:=eff,touch:=touch}:=by
 unfold wZ at h;split at h
 ·rename_i ti ht;split at h
  ·split at h
   ·rename_i n el ha;split at h
    ·rename_i te pd iD hp;split at h
     ·rename_i out hf;cases h;obtain⟨q1,q2⟩:=t5 hp;refine DK hd ho (bY.t t ti ht) ha (bY.t el te iD) (pd:=pd) (by simpa using q1) (fun j i x hj=>?_) hf;obtain⟨r1,r2⟩:=q2 j i x (by simpa using hj);rw[aG];exact⟨r1,r2⟩
     ·cases h
    ·cases h
   ·cases h
  ·rename_i f fs ip;split at h
   ·rename_i pd hp;split at h
    ·rename_i out hf;cases h;obtain⟨q1,q2⟩:=t5 hp;refine Mk hd ho (bY.t t ti ht) (by rw[ip];simp) (pd:=pd) (by simpa using q1) (fun j i x hj=>?_) (by rw[<-hf,ip]);obtain⟨r1,r2⟩:=q2 j i x (by simpa using hj);rw[aG];exact⟨r1,r2⟩
    ·cases h
   ·cases h
 ·cases h
omit hd in
theorem DR:∀{parts:List (Nat × Operand)}{n:Nat}{rows:List (List PV)},DN e n parts=some rows->parts.length=rows.length/\∀(j:Nat) (i:Nat) (x:Operand),parts[j]? =some (i,x)->
 i=n+j/\rows[j]? =some (cF (dA e x))/\wM (dA e x)=true
 |[],n,rows,h=>by cases h;simp
 |(i,x)::l,n,rows,h=>by
  unfold DN at h;split at h
  ·rename_i bD;simp only[Xv,beq_iff_eq]at bD;split at h
   ·rename_i rows' h2;cases h;obtain⟨q1,q2⟩:=DR h2;refine⟨by simp[q1],fun j i' y hj=>?_⟩;cases j with
    |zero=>
     simp at hj;obtain⟨rfl,rfl⟩:=hj;exact⟨by omega,rfl,bD.1⟩
    |succ j=>
     obtain⟨r0,r1,r3⟩:=q2 j i' y (by simpa using hj);exact⟨by omega,by simpa using r1,r3⟩
   ·cases h
  ·cases h
omit hd in
theorem MD:∀{rows:List (List PV)}{ds:List (List D)},VF rows=some ds->rows.length=ds.length/\∀(j:Nat) (r:List PV),rows[j]? =some r->∃d,ds[j]? =some d/\wN r=some d
 |[],ds,h=>by cases h;simp
 |r::l,ds,h=>by
  unfold VF at h;split at h
  ·rename_i d ds' h1 h2;cases h;obtain⟨q1,q2⟩:=MD h2;refine⟨by simp[q1],fun j x hj=>?_⟩;cases j with
   |zero=>simp at hj;subst hj;exact⟨d,rfl,h1⟩
   |succ j=>simpa using q2 j x (by simpa using hj)
  ·cases h
omit hd in
theorem qW {sz:Nat}:∀{rows:List (List PV)},w7 sz rows->∀r∈rows,r.length=sz
 |r::rows,h,q,hq=>by
  rcases XY.1 hq with rfl|hq
  ·exact h.1
  ·exact qW h.2 q hq
include bY in
theorem Qw [Flo](nQ:X.m<=hl.length){t n:Nat}{parts:List (Nat × Operand)}(ho:o.op= .buildSlice t n ⟨parts⟩)(h:Mx T (T t) hl.length e n parts= .res p eff touch side)(hs:side):bH X ops (bs e hl) o {pv:=p,eff:=eff,touch:=touch}:=by
 unfold Mx at h;split at h
 ·rename_i ti ht;split at h
  ·rename_i el he;split at h
   ·rename_i te iD;split at h
    ·cases h;exact wT hd ho (bY.t t ti ht) he (bY.t el te iD) (s:=bs e hl) (gV hl) aa
    ·rename_i n' parts';split at h
     ·rename_i rows hr;obtain⟨q1,q2⟩:=DR hr;split at h
      ·rename_i ds fD;have fD:VF rows=some ds:=by
        by_cases hq:te.kind=2
        ·rw[ah hq]at fD;cases fD
        ·rw[af hq]at fD;exact fD
       cases h;obtain⟨h1,h2,h3,h4⟩:=hs;obtain⟨g1,g2⟩:=MD fD;refine zD hd ho (bY.t t ti ht) he (bY.t el te iD) rfl h1 aa h2 aa aN (fun j i x hj=>?_);obtain⟨r0,r1,r3⟩:=q2 j i x (by simpa using hj);obtain⟨d,g3,g4⟩:=g2 j _ r1;have bP:=qW h4 _ (Xk r1);refine⟨by omega,d,g3,by rw[aG];exact g4,by rw[aG];exact r3,?_⟩;have:=congrArg Zm (r7 g4);rw[Xs]at this;omega
      ·cases h;obtain⟨h1,h2,h3,h4⟩:=hs;refine wS hd ho (bY.t t ti ht) he (bY.t el te iD) rfl h1 aa h2 h3 aN (s:=bs e hl) (gV hl) aa (fun j i x hj=>?_);obtain⟨r0,r1,r3⟩:=q2 j i x (by simpa using hj);rw[aG];exact⟨by omega,r1,r3,qW h4 _ (Xk r1)⟩
     ·cases h
    ·cases h
   ·cases h
  ·cases h
 ·cases h
include bY in
theorem ME [Flo](nQ:X.m<=hl.length){t:Nat}{x y:Operand}(ho:o.op= .makeSlice t x y)(h:DO T (T t) hl.length (dA e x) (dA e y)= .res p eff touch side)(hs:side):bH X ops (bs e hl) o {pv:=p,eff:=eff,touch:=touch}:=by
 unfold DO at h;split at h
 ·rename_i ti ht;split at h
  ·rename_i el he;split at h
   ·rename_i te iD;split at h
    ·rename_i zv kx n ky m hz hx hy;cases h;obtain⟨h1,h2,h3,h4⟩:=hs;subst h1;exact BT hd ho (bY.t t ti ht) he (bY.t el te iD) hz h2 h3 h4 (s:=bs e hl) (by rw[aG];exact hx) (by rw[aG];exact hy) (gV hl) aa
    ·cases h
   ·cases h
  ·cases h
 ·cases h
include bY in
theorem MF [Flo]{src dst:Nat}{x:Operand}(ho:o.op= .convert src dst x)(h:DP T (T src) (T dst) (dA e x)= .res p eff touch side)(hs:side):bH X ops (bs e hl) o {pv:=p,eff:=eff,touch:=touch}:=by
 unfold DP at h;split at h
 ·rename_i ts td h1 h2;split at h
  ·rename_i k k' n hi hx;cases h;exact Gq hd ho (bY.t _ _ h1) (bY.t _ _ h2) hi ((aG e hl x).trans hx)
  ·rename_i rows hi hx;split at h
   ·rename_i el he;split at h
    ·rename_i te iD;split at h
     ·rename_i xs hb;cases h;exact DI hd ho (bY.t _ _ h1) (bY.t _ _ h2) he (bY.t _ _ iD) hs.1 hs.2 ((aG e hl x).trans hx) hb
     ·cases h
    ·cases h
   ·cases h
  ·cases h
 ·cases h
include bY in
theorem Qx [Flo]{t:Nat}{x:Operand}(ho:o.op= .call ⟨.builtin .len,⟨[x]⟩,⟨[t]⟩⟩)(h:My (T t) (az hl) (dA e x)= .res p eff touch side)(hs:side):bH X ops (bs e hl) o {pv:=p,eff:=eff,touch:=touch}:=by
 unfold My at h;split at h
 ·rename_i ti ht;split at h
  ·rename_i el he;split at h
   ·rename_i sz rows hx;cases h;exact Mi (ty:=0) hd ho (bY.t _ _ ht) he ((aG e hl x).trans hx) (.inl ⟨_,_,rfl,rfl⟩)
   ·rename_i hx;cases h;exact Mi (ty:=0) hd ho (bY.t _ _ ht) he ((aG e hl x).trans hx) (.inr ⟨rfl,rfl⟩)
   ·rename_i k g hx;split at h
    ·rename_i E sz g' rows hk;cases h;subst hs;exact Jz hd ho (bY.t _ _ ht) he ((aG e hl x).trans hx) (s:=bs e hl) hk
    ·cases h
   ·rename_i k g sz st n hx;cases h;exact JE hd ho (bY.t _ _ ht) he ((aG e hl x).trans hx)
   ·cases h
  ·split at h
   ·rename_i a hx;cases h;exact JI hd ho (bY.t _ _ ht) hs ((aG e hl x).trans hx)
   ·cases h
 ·cases h
omit hd in
theorem Qy {sz:Nat}{y:PV}{news:List (List PV)}{ty:List Nat}(h:Qs (az hl) sz y=some (news,ty)):SrcP (bs e hl) sz y news ty:=by
 unfold Qs at h;split at h
 ·split at h
  ·rename_i e1;subst e1;cases h;exact .sl _
  ·cases h
 ·cases h;exact .nil _ _
 ·split at h
  ·rename_i E sz' g' rows hk;split at h
   ·rename_i e1;obtain⟨rfl,rfl⟩:=e1;cases h;exact .own _ _ _ _ hk
   ·cases h
  ·cases h
 ·split at h
  ·rename_i E sz' g' rows hk;split at h
   ·rename_i e1;obtain⟨rfl,rfl,rfl⟩:=e1;cases h;exact .osl _ _ _ _ _ _ hk
   ·cases h
  ·cases h
 ·cases h
include bY in
theorem Qz [Flo](nQ:X.m<=hl.length){t:Nat}{x y:Operand}(ho:o.op= .call ⟨.builtin .append,⟨[x,y]⟩,⟨[t,t]⟩⟩)(h:Mz T (T t) hl.length (az hl) (dA e x) (dA e y)= .res p eff touch side)(hs:side):bH X ops (bs e hl) o {pv:=p,eff:=eff,touch:=touch}:=by
 unfold Mz at h;split at h
 ·rename_i ti ht;split at h
  ·rename_i el he;split at h
   ·rename_i te iD;split at h
    ·cases h
    ·rename_i hz;have tD:0 < te.size:=aa;have F6:0 < te.bytes:=aa;have big:∀m:Nat,m*te.bytes<=140737488355328->m<=9223372036854775807:=fun m hm=>by
      have:=Nat.le_mul_of_pos_right m F6;omega
     split at h
     ·rename_i news ty tC;have tC:=Qy (e:=e) (hl:=hl) tC;rw[<-aG e hl]at tC;split at h
      ·rename_i k g hx;split at h
       ·rename_i e' sz g' rows hk;cases h;obtain⟨rfl,rfl,rfl,hb⟩:=hs;exact JA hd ho (bY.t _ _ ht) he (bY.t _ _ iD) rfl tD ((aG e hl x).trans hx) (s:=bs e hl) hk tC (big _ hb) hb
       ·cases h
      ·rename_i hx;cases h;exact BN hd ho (bY.t _ _ ht) he (bY.t _ _ iD) rfl tD ((aG e hl x).trans hx) (s:=bs e hl) (gV hl) aa tC (big _ hs) hs
      ·rename_i k g sz st n hx;split at h
       ·rename_i e' sz' g' rows hk;cases h;obtain⟨rfl,rfl,rfl,rfl,rfl,h1,h2⟩:=hs;exact BO hd ho (bY.t _ _ ht) he (bY.t _ _ iD) rfl tD ((aG e hl x).trans hx) (s:=bs e hl) hk h1 tC h2
       ·cases h
      ·cases h
     ·cases h
   ·cases h
  ·cases h
 ·cases h
include bY in
theorem JN [Flo]{t:Nat}{x:Operand}{lo hi mx:Option Operand}(ho:o.op= .slice t x lo hi mx)(h:w9 T (T t) (az hl) (dA e x) (lo.map (dA e)) (hi.map (dA e)) (mx.map (dA e))= .res p eff touch side)(hs:side):bH X ops (bs e hl) o {pv:=p,eff:=eff,touch:=touch}:=by
 have hm:∀y:Option Operand,y.map (dA e)=y.map (ev (bs e hl)):=fun y=>by cases y<;>simp[aG]
 rw[hm lo,hm hi]at h;unfold w9 at h;split at h
 ·rename_i ti ht;split at h
  ·rename_i el he;split at h
   ·rename_i te iD;split at h
    ·rename_i LH;have LH:mx=none:=by simpa using LH
     subst LH;split at h
     ·rename_i sz rows hx;split at h
      ·rename_i l r jr kZ;cases h;exact JC hd ho (bY.t _ _ ht) he (bY.t _ _ iD) hs.1 ((aG e hl x).trans hx) jr kZ hs.2.1 hs.2.2
      ·cases h
     ·rename_i k g hx;split at h
      ·rename_i e' sz g' hk;split at h
       ·rename_i l r jr kZ;cases h;obtain⟨rfl,rfl,h1,rfl,rfl⟩:=hs;exact BP hd ho (bY.t _ _ ht) he (bY.t _ _ iD) h1 ((aG e hl x).trans hx) (s:=bs e hl) hk jr kZ
       ·cases h
      ·rename_i e' sz g' rows bG hk;split at h
       ·rename_i l r jr kZ;cases h;obtain⟨rfl,rfl,h1,h2,h3,h4⟩:=hs;exact Dy hd ho (bY.t _ _ ht) he (bY.t _ _ iD) h1 ((aG e hl x).trans hx) (s:=bs e hl) hk h2 jr kZ h3 h4
       ·cases h
      ·cases h
     ·rename_i k g sz st n hx;split at h
      ·rename_i e' sz' g' rows hk;split at h
       ·rename_i l r jr kZ;cases h;obtain⟨rfl,rfl,rfl,h1,h2,h3,h4⟩:=hs;exact Dz hd ho (bY.t _ _ ht) he (bY.t _ _ iD) h1 ((aG e hl x).trans hx) (s:=bs e hl) hk h2 jr kZ h3 h4
       ·cases h
      ·cases h
     ·cases h
    ·rename_i m LH;split at h
     ·rename_i k g k1 n1 k2 n2 k3 n3 hx jr kZ;split at h
      ·rename_i e' sz g' rows hk;cases h;obtain⟨rfl,rfl,h1,h2,h3,h4,h5,h6⟩:=hs;cases lo with
       |none=>cases jr
       |some y1=>cases hi with
        |none=>cases kZ
        |some y2=>cases mx with
         |none=>cases LH
         |some y3=>
          simp only[Yb,XU.injEq]at jr kZ LH;exact JD hd ho (bY.t _ _ ht) he (bY.t _ _ iD) h1 ((aG e hl x).trans hx) (s:=bs e hl) hk h2 jr kZ ((aG e hl y3).trans LH) h3 h4 h5 h6
      ·cases h
     ·cases h
   ·cases h
  ·split at h
   ·rename_i a hx LH;have LH:mx=none:=by simpa using LH
    subst LH;split at h
    ·rename_i l r jr kZ;cases h;exact DH hd ho (bY.t _ _ ht) hs.1 ((aG e hl x).trans hx) jr kZ hs.2.1 hs.2.2
    ·cases h
   ·cases h
 ·cases h
include bY in
theorem JO [Flo]{t:Nat}{x:Operand}(ho:o.op= .call ⟨.builtin .clear,⟨[x]⟩,⟨[t]⟩⟩)(h:xa T (T t) (az hl) (dA e x)= .res p eff touch side)(hs:side):bH X ops (bs e hl) o {pv:=p,eff:=eff,touch:=touch}:=by
 unfold xa at h;split at h
 ·rename_i ti ht;split at h
  ·rename_i el he;split at h
   ·rename_i te iD;split at h
    ·rename_i k g sz st n hx;split at h
     ·rename_i e' sz' g' rows hk;cases h;obtain⟨rfl,rfl,rfl,h1,h2,h3⟩:=hs;exact Dx hd ho (bY.t _ _ ht) he (bY.t _ _ iD) h1 ((aG e hl x).trans hx) (s:=bs e hl) hk h2 h3
     ·cases h
    ·cases h
   ·cases h
  ·cases h
 ·cases h
include bY in
theorem JP [Flo]{t:Nat}{x y:Operand}(ho:o.op= .store t x y)(h:w8 (T t) (az hl) o.dst (dA e x) (dA e y)= .res p eff touch side)(hs:side):bH X ops (bs e hl) o {pv:=p,eff:=eff,touch:=touch}:=by
 unfold w8 at h;split at h
 ·rename_i ti ht pW;split at h
  ·rename_i k off hx;split at h
   ·rename_i TT cells hk;split at h
    ·rename_i bD;cases h;have:=Mm (X:=X) (ops:=ops) hd ho pW (bY.t _ _ ht) ((aG e hl x).trans hx) (s:=bs e hl) hk (y:=y) (by rw[aG];exact bD) (by rw[aG];exact hs.1) hs.2;rwa [aG]at this
    ·cases h
   ·cases h
  ·rename_i k g sz i j hx;split at h
   ·rename_i E sz' g' rows hk;split at h
    ·rename_i row b9;split at h
     ·rename_i bD;cases h;obtain⟨rfl,rfl,h1,h2⟩:=hs;have:=Gk (X:=X) (ops:=ops) hd ho pW (bY.t _ _ ht) ((aG e hl x).trans hx) (s:=bs e hl) hk b9 (y:=y) (by rw[aG];exact bD) (by rw[aG];exact h1) h2;rwa [aG]at this
     ·cases h
    ·cases h
   ·cases h
  ·cases h
 ·cases h
theorem DS [Flo](nQ:X.m<=hl.length){t:Nat}(ho:o.op= .makeMap t none)(h:pm (T t) hl.length= .res p eff touch side):bH X ops (bs e hl) o {pv:=p,eff:=eff,touch:=touch}:=by
 unfold pm at h;split at h
 ·split at h
  ·cases h;exact Gp hd ho (s:=bs e hl) (gV hl) aa
  ·cases h
 ·cases h
include bY in
theorem JQ [Flo](nQ:X.m<=hl.length){t:Nat}{m:Operand}(ho:o.op= .range t m)(h:xb (T t) (az hl) hl.length (dA e m)= .res p eff touch side)(hs:side):bH X ops (bs e hl) o {pv:=p,eff:=eff,touch:=touch}:=by
 unfold xb at h;split at h
 ·rename_i ti ht;split at h
  ·rename_i n sB W8;split at h
   ·rename_i k hm;split at h
    ·rename_i n' sB' ents hk;cases h;obtain⟨rfl,rfl⟩:=hs;exact Ms (X:=X) (ops:=ops) hd ho (bY.m _ _ _ _ ht W8) ((aG e hl m).trans hm) (s:=bs e hl) hk (gV hl) aa
    ·cases h
   ·cases h
  ·cases h
 ·cases h
omit bY in
theorem JR [Flo]{x:Operand}(ho:o.op= .entry x)(h:xc (az hl) (dA e x)= .res p eff touch side):bH X ops (bs e hl) o {pv:=p,eff:=eff,touch:=touch}:=by
 unfold xc at h;split at h
 ·rename_i k hx;split at h
  ·rename_i n sB ents seen hk;split at h
   ·rename_i i hi;split at h
    ·rename_i kv CV;cases h;exact Mt (X:=X) (ops:=ops) hd ho ((aG e hl x).trans hx) (s:=bs e hl) hk hi CV
    ·cases h
   ·cases h
  ·cases h
 ·cases h
include bY in
theorem Gv [Flo]{t:Nat}{m x:Operand}{ok:Bool}(ho:o.op= .lookup t m x ok)(h:sf (T t) (az hl) (dA e m) (dA e x) ok= .res p eff touch side)(hs:side):bH X ops (bs e hl) o {pv:=p,eff:=eff,touch:=touch}:=by
 unfold sf at h;split at h
 ·rename_i ti ht;split at h
  ·rename_i n sB W8;split at h
   ·rename_i k hm;split at h
    ·rename_i n' sB' ents hk;split at h
     ·rename_i xs hx;cases h;obtain⟨rfl,rfl,h3⟩:=hs;exact JG (X:=X) (ops:=ops) hd ho (bY.m _ _ _ _ ht W8) ((aG e hl m).trans hm) (s:=bs e hl) hk (by rw[aG];exact hx) h3
     ·cases h
    ·cases h
   ·cases h
  ·cases h
 ·cases h
include bY in
theorem AJ [Flo]{t:Nat}{m x y:Operand}(ho:o.op= .mapUpdate t m x y\/o.op= .insert t m x y)(h:tY (T t) (az hl) o.dst (dA e m) (dA e x) (dA e y)= .res p eff touch side)(hs:side):bH X ops (bs e hl) o {pv:=p,eff:=eff,touch:=touch}:=by
 unfold tY at h;split at h
 ·rename_i ti ht pW;split at h
  ·rename_i n sB W8;split at h
   ·rename_i k hm;split at h
    ·rename_i n' sB' ents hk;split at h
     ·rename_i xs v hx hy;cases h;obtain⟨rfl,rfl,h3⟩:=hs;exact BR (X:=X) (ops:=ops) hd ho pW (bY.m _ _ _ _ ht W8) ((aG e hl m).trans hm) (s:=bs e hl) hk (by rw[aG];exact hx) h3 ((aG e hl y).trans hy)
     ·cases h
    ·cases h
   ·cases h
  ·cases h
 ·cases h
end
section
variable {X:Cfg}{ops:Array Oper}{e:bU}{hl:List Chunk}{o:Oper}{T:Nat->Option TI}{Q:Nat->Option Nat}(bY:TabOK X.P T Q)(hd:∀d,o.dst=some d->d < X.n)
include bY hd
theorem MG [Flo](nQ:X.m<=hl.length){p:PV}{eff:List (Nat × Chunk)}{touch:List Nat}{side:Prop}(h:PT T Q e hl o= .res p eff touch side)(hs:side):bH X ops (bs e hl) o {pv:=p,eff:=eff,touch:=touch}:=by
 unfold PT at h;split at h
 ·rename_i x ho;cases h;have:=Qk (X:=X) (ops:=ops) (s:=bs e hl) hd ho;rwa [aG]at this
 ·rename_i x ho;cases h;have:=Jw (X:=X) (ops:=ops) (s:=bs e hl) hd ho;rwa [aG]at this
 ·rename_i ho;exact MA hd ho h hs
 ·rename_i ho;exact TR hd ho h hs
 ·rename_i ho;exact Qt hd ho h hs
 ·rename_i ho;exact Qv bY hd ho h hs
 ·rename_i ho;exact Qu bY hd ho h hs
 ·rename_i ho;exact JJ bY hd ho h hs
 ·rename_i ho;exact MB bY hd ho h hs
 ·rename_i ho;exact JK bY hd ho h hs
 ·rename_i ho;exact JL bY hd ho h hs
 ·rename_i ho;exact MC hd ho h hs
 ·rename_i t ho;split at h
  ·rename_i ti ht;cases h;exact Ml hd ho (bY.t _ _ ht) (s:=bs e hl) (gV hl) aa
  ·cases h
 ·rename_i t x ho;split at h
  ·rename_i bD;cases h;have:=TN (X:=X) (ops:=ops) (s:=bs e hl) hd ho (gV hl) aa (by rw[aG];exact bD);rwa [aG]at this
  ·cases h
 ·rename_i ho;exact JP bY hd ho h hs
 ·rename_i ho;exact JM bY hd ho h hs
 ·rename_i ho;exact Qw bY hd nQ ho h hs
 ·rename_i g caps ho;cases h;have:=Dt (X:=X) (ops:=ops) (s:=bs e hl) hd ho;have e1:(List.map (ev (bs e hl)) caps)=caps.map (dA e):=Y0 fun x _=>aG e hl x;simp only at this;rwa [e1]at this
 ·rename_i ho;exact MF bY hd ho h hs
 ·rename_i ho;exact Qx bY hd ho h hs
 ·rename_i ho;exact JN bY hd ho h hs
 ·rename_i ho;exact JO bY hd ho h hs
 ·rename_i x y t t' ho;split at h
  ·rename_i e1;subst e1;exact Qz bY hd nQ ho h hs
  ·cases h
 ·rename_i x y tys ho;split at h
  ·rename_i k m k' n hx hy;split at h
   ·rename_i e1;subst e1;cases h;exact TO hd ho ((aG e hl x).trans hx) ((aG e hl y).trans hy)
   ·cases h
  ·cases h
 ·rename_i x y tys ho;split at h
  ·rename_i k m k' n hx hy;split at h
   ·rename_i e1;subst e1;cases h;exact TP hd ho ((aG e hl x).trans hx) ((aG e hl y).trans hy)
   ·cases h
  ·cases h
 ·unfold DQ at h;split at h<;>cases h
 ·rename_i ho;exact ME bY hd nQ ho h hs
 ·rename_i ho;exact DS hd nQ ho h
 ·rename_i ho;exact Gv bY hd ho h hs
 ·rename_i ho;exact JQ bY hd nQ ho h hs
 ·rename_i ho;exact JR hd ho h
 ·rename_i ho;exact AJ bY hd (.inl ho) h hs
 ·rename_i ho;exact AJ bY hd (.inr ho) h hs
 ·cases h
omit bY hd in
theorem MH {g:Nat}{ps:List PV}(h:PT T Q e hl o= .call g ps):∃(fo:Operand) (args:List Operand) (tys:Array Nat) (caps:List PV),o.op= .call ⟨.value fo,⟨args⟩,tys⟩/\(dA e fo= .clo g caps\/∃cd:List D,dA e fo= .d (.clo g cd)/\caps=cd.map .d)/\ps=args.map (dA e)++caps:=by
 have key:∀(fo:Operand) (args:List Operand) (tys:Array Nat),o.op= .call ⟨.value fo,⟨args⟩,tys⟩->DQ (dA e fo) (args.map (dA e))= .call g ps->∃(fo:Operand) (args:List Operand) (tys:Array Nat) (caps:List PV),o.op= .call ⟨.value fo,⟨args⟩,tys⟩/\(dA e fo= .clo g caps\/∃cd:List D,dA e fo= .d (.clo g cd)/\caps=cd.map .d)/\ps=args.map (dA e)++caps:=by
  intro fo args tys ho h;unfold DQ at h;split at h
  ·rename_i g' caps SA;cases h;exact⟨fo,args,tys,caps,ho,.inl SA,rfl⟩
  ·rename_i g' cd SA;cases h;exact⟨fo,args,tys,_,ho,.inr ⟨cd,SA,rfl⟩,rfl⟩
  ·cases h
 unfold PT at h;split at h<;>first
  |(rename_i ho;exact key _ _ _ ho h)
  |(exfalso;revert h;unfold sd;repeat(first|(split)|(intro h;cases h)))
  |(exfalso;revert h;unfold V3;repeat(first|(split)|(intro h;cases h)))
  |(exfalso;revert h;unfold Mu;repeat(first|(split)|(intro h;cases h)))
  |(exfalso;revert h;unfold Mw;repeat(first|(split)|(intro h;cases h)))
  |(exfalso;revert h;unfold Mv;repeat(first|(split)|(intro h;cases h)))
  |(exfalso;revert h;unfold wW;repeat(first|(split)|(intro h;cases h)))
  |(exfalso;revert h;unfold DM;repeat(first|(split)|(intro h;cases h)))
  |(exfalso;revert h;unfold wY;repeat(first|(split)|(intro h;cases h)))
  |(exfalso;revert h;unfold wX;repeat(first|(split)|(intro h;cases h)))
  |(exfalso;revert h;unfold AH;repeat(first|(split)|(intro h;cases h)))
  |(exfalso;revert h;unfold w8;repeat(first|(split)|(intro h;cases h)))
  |(exfalso;revert h;unfold wZ;repeat(first|(split)|(intro h;cases h)))
  |(exfalso;revert h;unfold Mx;repeat(first|(split)|(intro h;cases h)))
  |(exfalso;revert h;unfold DP;repeat(first|(split)|(intro h;cases h)))
  |(exfalso;revert h;unfold My;repeat(first|(split)|(intro h;cases h)))
  |(exfalso;revert h;unfold Mz;repeat(first|(split)|(intro h;cases h)))
  |(exfalso;revert h;unfold w9;repeat(first|(split)|(intro h;cases h)))
  |(exfalso;revert h;unfold xa;repeat(first|(split)|(intro h;cases h)))
  |(exfalso;revert h;unfold DO;repeat(first|(split)|(intro h;cases h)))
  |(exfalso;revert h;unfold pm;repeat(first|(split)|(intro h;cases h)))
  |(exfalso;revert h;unfold sf;repeat(first|(split)|(intro h;cases h)))
  |(exfalso;revert h;unfold xb;repeat(first|(split)|(intro h;cases h)))
  |(exfalso;revert h;unfold xc;repeat(first|(split)|(intro h;cases h)))
  |(exfalso;revert h;unfold tY;repeat(first|(split)|(intro h;cases h)))
  |(exfalso;revert h;repeat(first|(split)|(intro h;cases h)))
end
def gW (e:bU)(dst:Option Nat)(p:PV):bU:=
 match dst with
 |some d=>(d,p)::e
 |none=>e
def bw:List Chunk->Nat->Chunk->List Chunk
 |[],0,c=>[c]
 |[],_+1,_=>[]
 |_::l,0,c=>c::l
 |a::l,k+1,c=>a::bw l k c
def qX:List (Nat × Chunk)->List Chunk->List Chunk
 |[],h=>h
 |(k,c)::l,h=>bw (qX l h) k c
theorem ir:∀{h:List Chunk}{k:Nat}{c:Chunk},k<=h.length->∀k',az (bw h k c) k'=if k'=k then c else az h k'
 |[],0,c,_,k'=>by cases k'<;>simp[bw,az]
 |[],k+1,c,h,k'=>by simp at h
 |a::l,0,c,_,k'=>by cases k'<;>simp[bw,az]
 |a::l,k+1,c,h,k'=>by
  cases k' with
  |zero=>simp[bw,az]
  |succ k'=>
   simp only[bw,az];rw[ir (by simpa using h)];simp
theorem DT:∀{h:List Chunk}{k:Nat}{c:Chunk},h.length<=(bw h k c).length
 |[],0,c=>by simp[bw]
 |[],k+1,c=>by simp[bw]
 |a::l,0,c=>by simp[bw]
 |a::l,k+1,c=>by
  have:=DT (h:=l) (k:=k) (c:=c);simpa[bw]using this
theorem si:∀{eff:List (Nat × Chunk)}{h:List Chunk},h.length<=(qX eff h).length
 |[],_=>XA _
 |(_,_)::_,_=>Yj si DT
theorem t6:∀{eff:List (Nat × Chunk)}{h:List Chunk},(∀kc∈eff,kc.1<=h.length)->∀k',az (qX eff h) k'=cw eff (az h) k'
 |[],_,_,_=>rfl
 |(k,c)::l,h,hk,k'=>by
  simp only[qX,cw];rw[ir (Yj (hk (k,c) ak) si),t6 fun kc P0=>hk kc (by simp[P0])]
theorem qa {e:bU}{h:List Chunk}{dst:Option Nat}{p:PV}{eff:List (Nat × Chunk)}{touch:List Nat}(hk:∀kc∈eff,kc.1<=h.length):(bs e h).app dst {pv:=p,eff:=eff,touch:=touch}=bs (gW e dst p) (qX eff h):=by
 have h1:az (qX eff h)=cw eff (az h):=funext (t6 hk);cases dst with
 |none=>simp only[FS.app,FS.put,bs,gW,h1]
 |some d=>
  simp only[FS.app,FS.put,bs,gW,h1];congr 1
theorem sj:∀{h:List Chunk}{k:Nat}{c:Chunk},k < h.length->(bw h k c).length=h.length
 |a::l,0,c,_=>rfl
 |a::l,k+1,c,hk=>by simp only[bw,XC];rw[sj (by simpa using hk)]
theorem DU:∀{h:List Chunk}{c:Chunk},(bw h h.length c).length=h.length+1
 |[],c=>rfl
 |a::l,c=>by simp only[bw,XC];rw[DU]
def jf (ρ:Nat->Nat):Nat->List Chunk->List Chunk->List Chunk
 |_,[],h=>h
 |j,c::l,h=>jf ρ (j+1) l (bw h (ρ j) (mr ρ c))
theorem xd {ρ:Nat->Nat}(inj:∀i j,ρ i=ρ j->i=j){c:Chunk}:∀(l:List Chunk) (i j:Nat) (h:Nat->Chunk),j < i->∀k,cw (lm ρ i l) (fun k'=>if k'=ρ j then c else h k') k=if k=ρ j then c else cw (lm ρ i l) h k
 |[],i,j,h,hj,k=>rfl
 |d::l,i,j,h,hj,k=>by
  simp only[lm,cw];by_cases e:k=ρ i
  ·rw[ah e,ah e,af (fun e2=>by have:=inj _ _ (e.symm.trans e2);omega)]
  ·rw[af e,af e];exact xd inj l (i+1) j h aa k
theorem xe {ls:List Nat}{nk:Nat}(ml:ls.Nodup)(hlt:∀k∈ls,k < nk):∀(l:List Chunk) (i:Nat) (h:List Chunk),(i<=ls.length->h.length=nk)->(ls.length<=i->h.length=nk+(i - ls.length))->
 (∀k,az (jf (eU ls nk) i l h) k=cw (lm (eU ls nk) i l) (az h) k)/\h.length<=(jf (eU ls nk) i l h).length
 |[],i,h,_,_=>⟨fun _=>rfl,XA _⟩
 |c::l,i,h,h1,h2=>by
  have inj:∀i j,eU ls nk i=eU ls nk j->i=j:=fun i j e=>BV ml hlt e;rcases XL i ls.length with hi|hi
  ·have bP:=h1 aa;have hk:eU ls nk i < h.length:=by rw[bP];exact hlt _ (Xk (nX hi))
   have iU:=sj (c:=mr (eU ls nk) c) hk;obtain⟨q1,q2⟩:=xe ml hlt l (i+1) (bw h (eU ls nk i) (mr (eU ls nk) c)) (fun _=>iU.trans bP) (fun hge=>by rw[iU,bP];omega);refine⟨fun k=>?_,by rw[iU]at q2;exact q2⟩;simp only[jf,lm,cw];rw[q1 k,show az (bw h (eU ls nk i) (mr (eU ls nk) c))=fun k'=>if k'=eU ls nk i then mr (eU ls nk) c else az h k' from funext (ir (G' hk))];exact xd inj l (i+1) i _ aa k
  ·have bP:=h2 hi;have hk:eU ls nk i=h.length:=by
    have:=ll ls nk (i - ls.length);rw[show ls.length+(i - ls.length)=i by omega]at this;omega
   have iU:(bw h (eU ls nk i) (mr (eU ls nk) c)).length=h.length+1:=by rw[hk];exact DU
   obtain⟨q1,q2⟩:=xe ml hlt l (i+1) (bw h (eU ls nk i) (mr (eU ls nk) c)) (fun hge=>by omega) (fun _=>by rw[iU,bP];omega);refine⟨fun k=>?_,Yj aa q2⟩;simp only[jf,lm,cw];rw[q1 k,show az (bw h (eU ls nk i) (mr (eU ls nk) c))=fun k'=>if k'=eU ls nk i then mr (eU ls nk) c else az h k' from funext (ir aa)];exact xd inj l (i+1) i _ aa k
def BZ (dj:Option Nat)(e:bU):Option (Option Bool):=
 match dj with
 |none=>some none
 |some t=>match dP e t with
  | .d (.v (.bool b))=>some (some b)
  | .d (.v (.tuple _))=>some none
  |_=>none
def t7 (ds:List (Option Nat))(e:bU)(o:Oper):Option Bool:=
 match o.guard with
 |none=>some true
 |some (j,want)=>(BZ (ds.getD j none) e).map (·==some want)
theorem JS {ops:Array Oper}{e:bU}{h:List Chunk}{o:Oper}:o5 ops (bs e h) o=t7 (ops.toList.map (·.dst)) e o:=by
 unfold o5 t7;cases o.guard with
 |none=>rfl
 |some jw=>
  obtain⟨j,want⟩:=jw;simp only;congr 1;unfold BG BZ;have:(ops[j]?).bind (·.dst)=(ops.toList.map (·.dst)).getD j none:=by
   simp only[XJ,Xr,X6];cases ops[j]? <;>rfl
  rw[this];rfl
def DV (n:Nat)(o:Oper):Bool:=match o.dst with|some d=>decide (d < n)|none=>true
def V4 (h:Nat->Chunk)(ps:List PV):Option (List D):=cI (vw h) ps
def TS (h:Nat->Chunk)(ps:List PV):List Nat:=j6 (tc h) ps
def qY (ls:List Nat)(nk n:Nat):List Nat:=(X4 n).map (eU ls nk)
def B0 [Flo](P:Program)(r:SR)(dst:Option Nat)(e:bU)(h:List Chunk)(sm:List (List Nat × List Nat))(R:bU->List Chunk->List (List Nat × List Nat)->Prop):Prop:=
 match r with
 | .no=>False
 | .res p eff touch side=>side/\(eff.all fun kc=>decide (kc.1<=h.length))=true/\R (gW e dst p) (qX eff h) ((eff.map (·.1),touch)::sm)
 | .call g ps=>(∃ds r,V4 (az h) ps=some ds/\ai P g ds r/\(TS (az h) ps=[]\/r.flat=true)/\R (gW e dst (.d r)) h (([],TS (az h) ps)::sm))\/
  (∃ls args h0 r h1,MSpec P g args h0 r h1/\ps=jx (eU ls h.length) args/\ls.length=h0.length/\ls.Nodup/\(∀k∈ls,k < h.length)/\bF (az h) (eU ls h.length) 0 h0/\
   R (gW e dst (ren (eU ls h.length) r)) (jf (eU ls h.length) 0 h1 h) ((qY ls h.length h1.length,qY ls h.length h1.length)::sm))\/
  ∃ls args h0 r,MSpec P g args h0 r h0/\ps=jx (eU ls h.length) args/\ls.length=h0.length/\ls.Nodup/\(∀k∈ls,k < h.length)/\bF (az h) (eU ls h.length) 0 h0/\
   R (gW e dst (ren (eU ls h.length) r)) h (([],qY ls h.length h0.length)::sm)
def t8 [Flo](P:Program)(n:Nat)(T:Nat->Option TI)(Q:Nat->Option Nat)(draw:Bool)(ops:Array Oper)(ds:List (Option Nat)):List Oper->bU->List Chunk->List (List Nat × List Nat)->(bU->List Chunk->Prop)->Prop
 |[],e,h,sm,K=>(draw=true->(o8 ops sm.reverse&&pb ops)=true)/\K e h
 |o::l,e,h,sm,K=>
  match t7 ds e o with
  |some g=>
   DV n o=true/\
   (g=true->B0 P (PT T Q e h o) o.dst e h sm (fun e' h' sm'=>t8 P n T Q draw ops ds l e' h' sm' K))/\
   (g=false->t8 P n T Q draw ops ds l (gW e o.dst (.d (.v undef))) h (([],[])::sm) K)
  |none=>False
theorem nY [Flo]{X:Cfg}{T:Nat->Option TI}{Q:Nat->Option Nat}(bY:TabOK X.P T Q){draw:Bool}{ops:Array Oper}{K:bU->List Chunk->Prop}:∀(l:List Oper) (i:Nat) (e:bU) (h:List Chunk) (sm:List (List Nat × List Nat)),X.m<=h.length->ops.toList.drop i=l->i<=ops.size->
 t8 X.P X.n T Q draw ops (ops.toList.map (·.dst)) l e h sm K->∃its e' h',kz X ops (bs e h) i its/\rT (bs e h) its=bs e' h'/\(draw=true->(o8 ops (sm.reverse++Gd its)&&pb ops)=true)/\K e' h'
 |[],i,e,h,sm,nQ,hl,hi,hs=>by
  refine⟨[],e,h,?_,rfl,by simpa[Gd]using hs.1,hs.2⟩;have:=congrArg Zm hl;simp at this;simp only[kz];omega
 |o::l,i,e,h,sm,nQ,hl,hi,hs=>by
  have hlt:i < ops.size:=by
   have:=congrArg Zm hl;simp at this;omega
  have Tn:ops[i]? =some o:=by
   have:=Yk (xs:=ops.toList) (i:=i) (j:=0);rw[hl]at this;simpa using this.symm
  have hl':ops.toList.drop (i+1)=l:=by
   rw[<-List.drop_drop,hl];rfl
  unfold t8 at hs;split at hs
  ·rename_i g hg;obtain⟨pW,h1,h2⟩:=hs;have hd:∀d,o.dst=some d->d < X.n:=by
    intro d hd;unfold DV at pW;rw[hd]at pW;simpa using pW
   have W9:o5 ops (bs e h) o=some g:=JS.trans hg;have step:∀(res:Res) (e2:bU) (h2:List Chunk),L9 X ops (bs e h) ⟨o,g,res⟩->(bs e h).app o.dst res=bs e2 h2->h.length<=h2.length->t8 X.P X.n T Q draw ops (ops.toList.map (·.dst)) l e2 h2 ((res.eff.map (·.1),res.touch)::sm) K->
    ∃its e' h',kz X ops (bs e h) i its/\rT (bs e h) its=bs e' h'/\(draw=true->(o8 ops (sm.reverse++Gd its)&&pb ops)=true)/\K e' h':=by
    intro res e2 h2 F3 Xa bP hs;obtain⟨its,e',h',t1,t2,t3,t4⟩:=nY bY l (i+1) e2 h2 _ aa hl' aa hs;refine⟨⟨o,g,res⟩::its,e',h',⟨Tn,F3,by rw[Xa];exact t1⟩,?_,fun F4=>?_,t4⟩
    ·show rT ((bs e h).app o.dst res) its=_;rw[Xa];exact t2
    ·have:=t3 F4;simpa[Gd]using this
   cases g with
   |true=>
    have h1:=h1 rfl;unfold B0 at h1;split at h1
    ·exact h1.elim
    ·rename_i p eff touch side js;obtain⟨Xb,a0Y,y8⟩:=h1;have hk:∀kc∈eff,kc.1<=h.length:=fun kc P0=>by
      have:=XD.1 a0Y kc P0;simpa using this
     exact step ⟨p,eff,touch⟩ _ _ ⟨W9,fun _=>MG bY hd nQ js Xb,fun hf=>by cases hf⟩ (qa hk) si y8
    ·rename_i g ps js;obtain⟨fo,args,tys,caps,ho,hf,rfl⟩:=MH js;have e1:(List.map (ev (bs e h)) args)=args.map (dA e):=Y0 fun x _=>aG e h x;have hf':ev (bs e h) fo= .clo g caps\/∃cd:List D,ev (bs e h) fo= .d (.clo g cd)/\caps=cd.map .d:=by rw[aG];exact hf
     rcases h1 with⟨ds,r,hv,hp,ip,y8⟩|⟨ls,margs,h0,r,wj,hM,mA,g1,g2,g3,g4,y8⟩|⟨ls,margs,h0,r,hM,mA,g1,g2,g3,g4,y8⟩
     ·have:=Qo (X:=X) (ops:=ops) (s:=bs e h) hd ho hf' (by simp only;rw[e1];exact hv) hp (by simp only;rw[e1];exact ip);simp only at this;rw[e1]at this;exact step ⟨.d r,[],_⟩ _ h ⟨W9,fun _=>this,fun hf=>by cases hf⟩ (qa (fun kc h=>by simp at h)) (XA _) y8
     ·have:=DE (X:=X) (ops:=ops) (s:=bs e h) (ls:=ls) (nk:=h.length) hd ho hf' hM (by simp only;rw[e1];exact mA) g1 g2 g3 g4 (fun i _=>nh h (h.length+i) aa) nQ;obtain⟨q1,q2⟩:=xe g2 g3 wj 0 h (fun _=>rfl) (fun h0=>by omega);refine step ⟨_,_,_⟩ (gW e o.dst (ren (eU ls h.length) r)) (jf (eU ls h.length) 0 wj h) ⟨W9,fun _=>this,fun hf=>by cases hf⟩ ?_ q2 ?_
      ·have h3:az (jf (eU ls h.length) 0 wj h)=cw (lm (eU ls h.length) 0 wj) (az h):=funext q1;cases hdd:o.dst with
       |none=>simp only[FS.app,FS.put,bs,gW,h3]
       |some d=>
        simp only[FS.app,FS.put,bs,gW,h3];congr 1
      ·have h4:(lm (eU ls h.length) 0 wj).map (·.1)=qY ls h.length wj.length:=by
        rw[tW];exact Y0 fun j _=>by rw[Xw]
       simp only;rw[h4];exact y8
     ·have:=Mr (X:=X) (ops:=ops) (s:=bs e h) (ls:=ls) (nk:=h.length) hd ho hf' hM (by simp only;rw[e1];exact mA) g1 g2 g3 g4 nQ;exact step ⟨ren (eU ls h.length) r,[],_⟩ _ h ⟨W9,fun _=>this,fun hf=>by cases hf⟩ (qa (fun kc h=>by simp at h)) (XA _) y8
   |false=>
    exact step Ga _ h ⟨W9,(fun hf=>(by cases hf)),fun _=>⟨rfl,hd⟩⟩ (qa (fun kc h=>by simp at h)) (XA _) (h2 rfl)
  ·exact hs.elim
theorem B1 [Flo]{X:Cfg}{T:Nat->Option TI}{Q:Nat->Option Nat}(bY:TabOK X.P T Q)(hm:X.P.follows .mixedOrders=true){id:Nat}{draw:Bool}{ops:Array Oper}{K:bU->List Chunk->Prop}{e:bU}{h:List Chunk}{a:Act}{w:World}{R:Exit->Act->World->Prop}(nQ:X.m<=h.length)
 (hs:t8 X.P X.n T Q draw ops (ops.toList.map (·.dst)) ops.toList e h [] K) (hr:eQ X (bs e h) a w) (hR:∀e' h' a' w',K e' h'->eQ X (bs e' h') a' w'->R .normal a' w'):(Code.region id ops draw).wp X.P R a w:=by
 obtain⟨its,e',h',t1,t2,t3,t4⟩:=nY bY ops.toList 0 e h [] nQ rfl (XE _) hs;refine Dk hm id draw t1 (fun hd=>?_) hr (fun a' w' hr'=>hR e' h' a' w' t4 (by rw[<-t2];exact hr'));have:=t3 hd;simpa using this
theorem a3R {p:Prop}(h:p:=by
 simp[bs,az,Cx.block]at h):p:=h
theorem a4Q {p:Prop}(h:p:=by
 exact⟨hc.defers,v,cg,v,rfl,hle _ _ _ zm,hc.ext.ext⟩):p:=h
def cG [Flo](P:Program)(n m:Nat)(e:bU)(h:List Chunk)(e':bU)(h':List Chunk):Prop:=∀X:Cfg,X.P=P->X.n=n->X.m=m->∀a w,eQ X (bs e h) a w->eQ X (bs e' h') a w
def RK [Flo](X:Cfg)(K:Exit->bU->List Chunk->Prop)(x:Exit)(a:Act)(w:World):Prop:=∃e h,K x e h/\eQ X (bs e h) a w
def uZ [Flo](P:Program)(n m:Nat)(c:Code)(K:Exit->bU->List Chunk->Prop)(e:bU)(h:List Chunk):Prop:=∀X:Cfg,X.P=P->X.n=n->X.m=m->∀a w,eQ X (bs e h) a w->c.wp P (RK X K) a w
def nZ:List PV->Nat->bU
 |[],_=>[]
 |p::l,i=>(i,p)::nZ l (i+1)
theorem AK:∀(ps:List PV) (i t:Nat),dP (nZ ps i) t=if i<=t then (match ps[t - i]? with|some p=>p|none=> .any)else .any
 |[],i,t=>by simp[nZ,dP]
 |d::l,i,t=>by
  simp only[nZ,dP];by_cases h:t=i
  ·subst h;simp
  ·rw[af h,AK l (i+1) t];by_cases h2:i<=t
   ·rw[ah h2,ah aa,show t - i=(t - (i+1))+1 by omega,Yw]
   ·rw[af h2,af aa]
def Ib (T:Nat->Option TI)(e:bU)(h:List Chunk):ResultVar->Option PV
 | .tmp t=>some (dP e t)
 | .cell a t=>
  match dP e a,T t with
  | .ptr k off,some ti=>
   match az h k with
   | .box _ cells=>
    if off+ti.size<=cells.length then
     if ti.agg then some (tO ((cells.drop off).take ti.size))
     else match cells.drop off with
      |p::_=>if ti.size=1 then some p else none
      |[]=>none
    else none
   |_=>none
  |_,_=>none
def qF (T:Nat->Option TI)(e:bU)(h:List Chunk):List ResultVar->Option (List PV)
 |[]=>some []
 |r::l=>match Ib T e h r,qF T e h l with|some d,some ds=>some (d::ds)|_,_=>none
def xg:List PV->PV
 |[p]=>p
 |ps=>Mf ps
def aO [Flo](d d':D):Prop:=∀(M:Nat->Prop) (w:World) (v:Value),RepD M w d v->RepD M w d' v
theorem aO.refl [Flo](d:D):aO d d:=fun _ _ _ h=>h
theorem aO.nil [Flo](sz:Nat):aO (.v (.slice none 0 0)) (.sl sz []):=fun _ _ _ h=>by cases h;exact .nil _ _ _ aa
def qZ [Flo]:List D->List D->Prop
 |[],[]=>True
 |a::l,b::m=>aO a b/\qZ l m
 |_,_=>False
theorem ws [Flo]:∀{l m:List D},qZ l m->l.length=m.length/\∀(j:Nat) (a b:D),l[j]? =some a->m[j]? =some b->aO a b
 |[],[],_=>⟨rfl,fun j a b h=>by simp at h⟩
 |[],_::_,h=>h.elim
 |_::_,[],h=>h.elim
 |a::l,b::m,⟨h1,h2⟩=>by
  obtain⟨q1,q2⟩:=ws h2;refine⟨by simp[q1],fun j x y hx hy=>?_⟩;cases j with
  |zero=>simp at hx hy;subst hx;subst hy;exact h1
  |succ j=>exact q2 j x y (by simpa using hx) (by simpa using hy)
theorem xj [Flo]{M:Nat->Prop}{w:World}{l m:List D}{vs:List Value}(h:qZ l m)(hr:cj M w l vs):cj M w m vs:=by
 obtain⟨q1,q2⟩:=ws h;refine⟨q1 ▸ hr.1,fun j d x hj hx=>?_⟩;have hlt:j < l.length:=by rw[q1];exact(Xm.1 hj).1
 have hl:l[j]? =some l[j]:=Xj hlt;exact q2 j _ d hl hj M w x (hr.2 j _ x hl hx)
theorem aO.agg [Flo]{l m:List D}(h:qZ l m)(h1:m.all D.one=true):aO (.agg l) (.agg m):=fun M w v hr=>by
 cases hr with
 |agg _ vs hl _ aU=>
  have:=xj h ⟨hl,aU⟩;exact .agg m vs this.1 (by simpa using h1) this.2
theorem aO.tup [Flo]{l m:List D}(h:qZ l m):aO (.tup l) (.tup m):=fun M w v hr=>by
 cases hr with
 |tup _ vs hl aU=>
  have:=xj h ⟨hl,aU⟩;exact .tup m vs this.1 this.2
theorem ai.args [Flo]{P:Program}{f:Nat}{ds ds':List D}{r:D}(h:ai P f ds' r)(hd:qZ ds ds'):ai P f ds r:=⟨h.1,fun M w vs hM hG fD=>h.2 M w vs hM hG (xj hd fD)⟩
theorem ai.res [Flo]{P:Program}{f:Nat}{ds:List D}{r r':D}(h:ai P f ds r)(hr:aO r r'):ai P f ds r':=⟨h.1,fun M w vs hM hG fD=>(h.2 M w vs hM hG fD).mono fun e w' ⟨v,he,hv,hx⟩=>⟨v,he,hr M w' v hv,hx⟩⟩
def ni [Flo](T:Nat->Option TI)(rs:List ResultVar)(r:D)(x:Exit)(e:bU)(h:List Chunk):Prop:=(x= .normal\/x= .ret)/\∃ps d,qF T e h rs=some ps/\vw (az h) (xg ps)=some d/\aO d r
def zI [Flo](P:Program)(m:Nat)(T:Nat->Option TI)(rs:List ResultVar)(r:PV)(h1:List Chunk)(x:Exit)(e:bU)(h:List Chunk):Prop:=(x= .normal\/x= .ret)/\∃ps,qF T e h rs=some ps/\cG P 1 m [(0,xg ps)] h [(0,r)] h1
def rc (tmps:Array Value):ResultVar->Sem Value
 | .tmp t=>pure (tmps.getD t undef)
 | .cell a t=>do loadVar t (<-asAddr (tmps.getD a undef))
theorem vd {P:Program}{tmps:Array Value}{w:World}:∀(rs:List ResultVar) (vs:List Value),rs.length=vs.length->
 (∀(j:Nat) (r:ResultVar) (v:Value),rs[j]? =some r->vs[j]? =some v->(rc tmps r).run P w= .ok v w)->(rs.mapM (rc tmps)).run P w= .ok vs w
 |[],[],_,_=>by simp
 |[],_::_,h,_=>by simp at h
 |_::_,[],h,_=>by simp at h
 |r::rs,v::vs,h,hr=>by
  have h0:=hr 0 r v rfl rfl;have ih:=vd (P:=P) (tmps:=tmps) (w:=w) rs vs (by simpa using h) fun j r v h1 h2=>hr (j+1) r v (by simpa using h1) (by simpa using h2);rw[List.mapM_cons,Sem.run_bind,h0];simp only[Result.andThen_ok,Sem.run_bind,ih];rfl
theorem QA [Flo]{X:Cfg}{T:Nat->Option TI}{Q:Nat->Option Nat}(bY:TabOK X.P T Q){e:bU}{h:List Chunk}{a:Act}{w:World}{c:Cx}(hc:RealC X (bs e h) a w c)(rv:ResultVar)(p:PV)(BB:Ib T e h rv=some p):
 ∃v,(rc a.tmps rv).run X.P w= .ok v w/\RepP c w p v:=by
 cases rv with
 |tmp t=>cases BB;exact⟨_,rfl,hc.env t⟩
 |cell b t=>
  simp only[Ib]at BB;split at BB
  ·rename_i k off ti hb' ht;split at BB
   ·rename_i TT cells hk;split at BB
    ·rename_i cK;have bo:=hc.chunk k;have hk':(bs e h).heap k= .box TT cells:=hk;rw[hk']at bo;have Pc:=hc.env b;have jT:(bs e h).env b= .ptr k off:=hb';rw[jT]at Pc;generalize hu:a.tmps.getD b undef=u at Pc;cases Pc with
     |ptr _ _ bb hbb=>
      cases bo with
      |box _ _ b'' us hb'' hh oR h1=>
       rw[hbb]at hb'';cases hb'';have hul:us.length=cells.length:=oR.1.symm;have bP:((us.drop off).take ti.size).length=ti.size:=by rw[Xo,XO];omega
       have cf:∀(j:Nat) (v:Value),((us.drop off).take ti.size)[j]? =some v->w.cell? ⟨bb,off+j,none⟩=some v:=fun j v hj=>by
        simp[YL,hh,(eX hj).2]
       have Tr:∀(h0:ti.agg=false->∃v,(us.drop off).take ti.size=[v]),(loadVar t ⟨bb,off,none⟩).run X.P w= .ok (if ti.agg then .agg ((us.drop off).take ti.size).toArray else ((us.drop off).take ti.size).headD undef) w:=by
        intro h0;have:=nU (bY.t t ti ht) w bb off ((us.drop off).take ti.size) bP cf h0;simpa[Instr.loadAt,Instr.sureAddr]using this
       cases qr:ti.agg with
       |true=>
        rw[qr,ah rfl]at BB;cases BB;have hl:=Tr (fun h=>by rw[qr]at h;cases h);rw[qr,ah rfl]at hl;exact⟨_,by simp[rc,hu,asAddr,hl],r8 (oR.part off ti.size) (fun d hd=>h1 d (Yd (Yf hd)))⟩
       |false=>
        rw[qr,af ak]at BB;split at BB
        ·rename_i q l F4;split at BB
         ·rename_i h1';cases BB;have hp:=tZ F4;obtain⟨v,hv⟩:∃v,us[off]? =some v:=⟨us[off]'(by omega),Xj _⟩;have eO:(us.drop off).take ti.size=[v]:=by
           rw[h1',YN aa];simp only[ZF,p'];rw[Xj aa]at hv;simpa using hv
          have hl:=Tr (fun _=>⟨v,eO⟩);rw[qr,af ak,eO]at hl;exact⟨v,by simp[rc,hu,asAddr,hl],oR.2 off p v hp hv⟩
         ·cases BB
        ·cases BB
    ·cases BB
   ·cases BB
  ·cases BB
theorem B2 [Flo]{X:Cfg}{T:Nat->Option TI}{Q:Nat->Option Nat}(bY:TabOK X.P T Q){e:bU}{h:List Chunk}{a:Act}{w:World}{c:Cx}(hc:RealC X (bs e h) a w c){fn:Func}{ps:List PV}(gm:qF T e h fn.results.toList=some ps):
 ∃v,(results fn a.tmps).run X.P w= .ok v w/\RepP c w (xg ps) v:=by
 have Xc:∀(rs:List ResultVar) (ps:List PV),qF T e h rs=some ps->∃vs:List Value,rs.length=vs.length/\bA c w ps vs/\
  (∀(j:Nat) (r:ResultVar) (v:Value),rs[j]? =some r->vs[j]? =some v->(rc a.tmps r).run X.P w= .ok v w):=by
  intro rs;induction rs with
  |nil=>
   intro ds fD;simp[qF]at fD;subst fD;exact⟨[],rfl,⟨rfl,fun j d x h=>by simp at h⟩,fun j r v h=>by simp at h⟩
  |cons rv rs ih=>
   intro ds fD;simp only[qF]at fD;split at fD
   ·rename_i d ds' h1 h2;cases fD;obtain⟨v,Dh,VQ⟩:=QA bY hc rv d h1;obtain⟨vs,g1,g2,g3⟩:=ih ds' h2;refine⟨v::vs,by simp[g1],⟨by simp[g2.1],fun j d x hj hx=>?_⟩,fun j r x hj hx=>?_⟩
    ·cases j with
     |zero=>simp at hj hx;subst hj;subst hx;exact VQ
     |succ j=>exact g2.2 j d x (by simpa using hj) (by simpa using hx)
    ·cases j with
     |zero=>simp at hj hx;subst hj;subst hx;exact Dh
     |succ j=>exact g3 j r x (by simpa using hj) (by simpa using hx)
   ·cases fD
 obtain⟨vs,g1,g2,g3⟩:=Xc _ _ gm;have cg:=vd (P:=X.P) (tmps:=a.tmps) (w:=w) fn.results.toList vs g1 g3;have rM:(results fn a.tmps).run X.P w= .ok (if h:vs.length=1 then vs[0]else .tuple vs.toArray) w:=by
  have e1:results fn a.tmps=(do let vs <-fn.results.mapM (rc a.tmps);pure (if h:vs.size=1 then vs[0]else .tuple vs)):=by
   unfold results;congr 1
  rw[e1,Sem.run_bind,Array.mapM_eq_mapM_toList];simp[cg]
 refine⟨_,rM,?_⟩;by_cases h1:vs.length=1
 ·rw[dif_pos h1];obtain⟨d,rfl⟩:=List.length_eq_one_iff.1 (g2.1.trans h1);exact g2.2 0 d _ rfl (Xj aa)
 ·rw[dif_neg h1];have:xg ps=Mf ps:=by
   unfold xg;split
   ·exact absurd g2.1.symm h1
   ·rfl
  rw[this];exact Mg g2
theorem xk [Flo]{c:Cx}{w:World}{ps:List PV}{vs:List Value}{n:Nat}(fD:bA c w ps vs)(t:Nat):RepP c w (dP (nZ ps 0) t) ((vs.toArray++Y1 (n - vs.toArray.size) undef).getD t undef):=by
 rw[AK];rw[ah (XE _),Zs];cases hd:ps[t]? with
 |none=>exact .any _
 |some d=>
  have hlt:t < vs.length:=by rw[<-fD.1];exact(Xm.1 hd).1
  have hv:vs[t]? =some vs[t]:=Xj hlt;have:=fD.2 t d _ hd hv;simp only[Ys,Array.getElem?_append,YF,hlt,if_true,Zc,hv,YD];exact this
theorem ve [Flo]{P:Program}{f:Nat}{fn:Func}{c:Code}{T:Nat->Option TI}{Q:Nat->Option Nat}(bY:TabOK P T Q)(hf:P.funcs[f]? =some fn)(hb:fn.body=some c)(hn:zB P f){ds:List D}{r:D}(hl:ds.length<=fn.ntmps)
 (hp:uZ P fn.ntmps 0 c (ni T fn.results.toList r) (nZ (ds.map .d) 0) []):ai P f ds r:=by
 refine⟨hn,fun M w vs hM hG fD=>?_⟩;have Sv:vs.length=ds.length:=fD.1.symm;let c0:Cx:={M:=M,bl:=fun _=>none,ov:=fun _ _=>none}
 let X:Cfg:={P:=P,n:=fn.ntmps,m:=0,w0:=w,M0:=M,L:=fun _=>False,c0:=c0}
 have kT:eQ X (bs (nZ (ds.map .d) 0) []) {tmps:=vs.toArray++Y1 (fn.ntmps - vs.toArray.size) undef,defers:=[]} w:=by
  refine⟨c0,by simp[X];omega,rfl,ExtL.refl _ _,hG.keep ⟨XA _,fun _ _ _=>rfl,fun b _ h=>h.elim id False.elim⟩,fun b hb=>⟨hM b hb,id⟩,fun b=>⟨.inl,fun h=>?_⟩,fun k b h=>?_,fun k k' b h _=>?_,fun t=>xk (p8 (c:=c0) fD) t,fun k=>?_,fun k hk=>absurd hk (Yy _)⟩
  ·rcases h with h|⟨k,h⟩
   ·exact h
   ·exact a3R
  ·exact a3R
  ·exact a3R
  ·simp only[bs,az];exact .none rfl fun _=>rfl
 refine calls_of_wp hf hb (wp_mono (hp X rfl rfl rfl _ _ kT) fun ex a w' hq=>?_);obtain⟨e,h,⟨hx,ps,d,gm,hv,hle⟩,hr⟩:=hq;obtain⟨cx,hc⟩:=hr;obtain⟨v,cg,aU⟩:=B2 bY hc gm;have hd:=jv hc (T:=tc (az h) (xg ps)) 6 hv (fun _ h=>h) aU;have zm:RepD M w' d v:=by
  refine hd.keep ⟨XA _,fun _ _ _=>rfl,fun b _ hb=>⟨(hc.mu b).2 (.inl hb),fun k _ e=>?_⟩⟩;rcases(hc.new k b e).1 with h1|h1
  ·exact h1
  ·have:=(hc.fresh b hb).1;omega
 rcases hx with rfl|rfl
 ·exact a4Q
 ·exact a4Q
theorem DW [Flo]{P:Program}{f:Nat}{fn:Func}{c:Code}{T:Nat->Option TI}{Q:Nat->Option Nat}(bY:TabOK P T Q)(hf:P.funcs[f]? =some fn)(hb:fn.body=some c)(hn:zB P f){args:List PV}{h0 h1:List Chunk}{r:PV}(hl:args.length<=fn.ntmps)
 (hle:h0.length<=h1.length) (Ae:aw h0.length args=true) (hbh:aL h0.length h0=true) (hp:uZ P fn.ntmps h0.length c (zI P h0.length T fn.results.toList r h1) (nZ args 0) h0):MSpec P f args h0 r h1:=by
 refine⟨hn,hle,Ae,hbh,fun X hXP hXn oS w cx vs hc vN=>?_⟩;subst hXP;have Sv:vs.length=args.length:=vN.1.symm;have kT:eQ {X with n:=fn.ntmps} (bs (nZ args 0) h0) {tmps:=vs.toArray++Y1 (fn.ntmps - vs.toArray.size) undef,defers:=[]} w:=
  ⟨cx,by simp;omega,rfl,hc.ext,hc.inv,hc.fresh,hc.mu,hc.new,hc.apart,fun t=>xk vN t,hc.chunk,hc.lent⟩
 refine calls_of_wp hf hb (wp_mono (hp {X with n:=fn.ntmps} rfl rfl oS _ _ kT) fun ex a w' hq=>?_);obtain⟨e,h,⟨hx,ps,gm,Xd⟩,hr⟩:=hq;obtain⟨c2,vK⟩:=hr;obtain⟨v,cg,aU⟩:=B2 (X:={X with n:=fn.ntmps}) bY vK gm;have hr3:eQ {X with n:=1} (bs [(0,xg ps)] h) {tmps:=#[v],defers:=[]} w':=by
  refine⟨c2,rfl,rfl,vK.ext,vK.inv,vK.fresh,vK.mu,vK.new,vK.apart,fun t=>?_,vK.chunk,vK.lent⟩;simp only[bs,dP];by_cases ht:t=0
  ·subst ht;rw[ah rfl];exact aU
  ·rw[af ht];exact .any _
 obtain⟨c3,SD⟩:=Xd {X with n:=1} rfl rfl oS _ _ hr3;have VR:RepP c3 w' r v:=SD.env 0;have tE:RealC X (bs [] h1) Gs w' c3:=⟨hXn.symm,rfl,SD.ext,SD.inv,SD.fresh,SD.mu,SD.new,SD.apart,fun t=> .any _,SD.chunk,SD.lent⟩;rcases hx with rfl|rfl
 ·exact⟨vK.defers,v,cg,v,c3,rfl,VR,tE⟩
 ·exact⟨vK.defers,v,cg,v,c3,rfl,VR,tE⟩
theorem a3W {p:Prop}(h:p:=by
 refine⟨h1.1,h1.2.mono ?_⟩;rintro e w' ⟨⟨u,rfl,rfl⟩,hw⟩;exact⟨rfl,hw⟩):p:=h
def DX (W:World)(R:Value->Prop)(e:Ending)(w':World):Prop:=(∃u,e= .returned u/\R u)/\dy W w'
def VG (P:Program)(W w:World)(R:Value->Prop):Result Next->Prop
 | .ok (.value u) w'=>w'=w/\R u
 | .ok .skip w'=>w'=w/\R undef
 | .ok (.enter f args) w'=>w'=w/\Calls P f args w (DX W R)
 |_=>False
attribute [go_sem] VG
section
variable {P:Program}{ops:Array Oper}{W:World}{Q:Act->Prop}{o:Oper}{rest:List Oper}{a:Act}
theorem t9 {w:World}{v:Value}{r:Result Next}(h:∀R:Value->Prop,R v->VG P W w R r):Oper.quietUpon P (dy W) w v r:=by
 have h1:=h (·=v) rfl;unfold VG at h1;unfold Oper.quietUpon;split at h1
 ·exact h1
 ·exact⟨h1.1,h1.2.symm⟩
 ·exact a3W
 ·exact h1.elim
theorem Gw {v:Value}(hw:Region.wanted o (yielded ops a.tmps)=true)(h:∀w,dy W w->∀R:Value->Prop,R v->VG P W w R ((execOp a.eval o).run P w))
 (hn:wpQuiet P ops (dy W) Q rest (a.put o.dst v)):wpQuiet P ops (dy W) Q (o::rest) a:=by
 unfold wpQuiet;rw[ah hw];exact⟨v,fun w hC=>t9 (h w hC),hn⟩
theorem rd (hw:Region.wanted o (yielded ops a.tmps)=false)(hn:wpQuiet P ops (dy W) Q rest (a.put o.dst undef)):wpQuiet P ops (dy W) Q (o::rest) a:=by
 unfold wpQuiet;rw[af (by rw[hw];simp)];exact hn
section
variable {j d:Nat}{v:Value}{W:World}{Q:Act->Prop}
theorem gX {b:Bool}(hd:(ops[j]?).bind (·.dst)=some d)(hv:a.tmps.toList[d]? =some v)(hb:v= .bool b):yielded ops a.tmps j=some b:=by
 subst hb;rw[X6]at hv;simp[yielded,hd,hv]
theorem oa (hd:(ops[j]?).bind (·.dst)=some d)(hv:a.tmps.toList[d]? =some v)(hb:v=undef):yielded ops a.tmps j=none:=by
 subst hb;rw[X6]at hv;simp[yielded,hd,hv,undef]
theorem TU (hg:o.guard=some (j,true))(hd:(ops[j]?).bind (·.dst)=some d)(hv:a.tmps.toList[d]? =some v)(hb:v= .bool false)(hn:wpQuiet P ops (dy W) Q rest (a.put o.dst undef)):wpQuiet P ops (dy W) Q (o::rest) a:=
 rd (by simp[Region.wanted,hg,gX hd hv hb]) hn
theorem TV (hg:o.guard=some (j,false))(hd:(ops[j]?).bind (·.dst)=some d)(hv:a.tmps.toList[d]? =some v)(hb:v= .bool true)(hn:wpQuiet P ops (dy W) Q rest (a.put o.dst undef)):wpQuiet P ops (dy W) Q (o::rest) a:=
 rd (by simp[Region.wanted,hg,gX hd hv hb]) hn
theorem TW {b:Bool}(hg:o.guard=some (j,b))(hd:(ops[j]?).bind (·.dst)=some d)(hv:a.tmps.toList[d]? =some v)(hb:v=undef)(hn:wpQuiet P ops (dy W) Q rest (a.put o.dst undef)):wpQuiet P ops (dy W) Q (o::rest) a:=
 rd (by simp[Region.wanted,hg,oa hd hv hb]) hn
theorem dQ (hg:o.guard=none):Region.wanted o (yielded ops a.tmps)=true:=by simp[Region.wanted,hg]
theorem eE {b:Bool}(hg:o.guard=some (j,b))(hd:(ops[j]?).bind (·.dst)=some d)(hv:a.tmps.toList[d]? =some v)(hb:v= .bool b):Region.wanted o (yielded ops a.tmps)=true:=by
 simp[Region.wanted,hg,gX hd hv hb]
end
theorem MI {f:FuncId}{args:Array Value}{w:World}{R:Value->Prop}{v:Value}(hw:dy W w)(h:Calls P f args w fun e w'=>e= .returned v/\dy w w')(hR:R v):Calls P f args w (DX W R):=
 h.mono fun _ _ ⟨he,hx⟩=>⟨⟨v,he,hR⟩,hw.trans (hx.mono hw.size)⟩
theorem xm {f:FuncId}{args:Array Value}{w:World}{R:Value->Prop}{v:Value}(hw:dy W w)(h:Calls P f args w fun e w'=>e= .returned v/\w=w')(hR:R v):Calls P f args w (DX W R):=
 h.mono fun _ _ ⟨he,hx⟩=>⟨⟨v,he,hR⟩,hx ▸ hw⟩
theorem Gx {id:Nat}{Q:Exit->Act->World->Prop}{w:World}{l:List Oper}(hm:P.follows .mixedOrders=true)(hB:Region.lexB .any l.toArray=true)
 (h:wpQuiet P l.toArray (dy w) (fun a'=>∀w',dy w w'->Q .normal a' w') l a):(Code.region id l.toArray true).wp P Q a w:=
 wp_region_quiet (C:=dy w) hm hB (Below.refl _ _).drew (by simpa using h)
end
section
variable {P:Program}{ops:Array Oper}{w:World}{Q:Exit->Act->World->Prop}{a:Act}{n:Nat}{listed:Array Bool}
end
theorem ce {k:IntKind}{a b:Int}(h:a=b):Ending.returned (.int k a)= .returned (.int k b):=by rw[h]
theorem dt {a b:Bool}(h:a=b):Ending.returned (.bool a)= .returned (.bool b):=by rw[h]
section
open Go.Proofs
theorem lE (a:Nat)(ha:a < 9223372036854775808):(BitVec.ofInt 64 (a:Int)).toNat=a:=by
 rw[BitVec.ofInt_natCast,BitVec.toNat_ofNat];exact Nat.mod_eq_of_lt aa
theorem DY (a b:Nat)(ha:a < 9223372036854775808)(hb:b < 9223372036854775808):bits .and .i64 (a:Int) (b:Int)=((a&&& b:Nat):Int):=by
 have hx:a&&& b < 2 ^ 63:=Nat.and_lt_two_pow _ aa;show IntKind.i64.wrap ((BitVec.ofInt 64 (a:Int)&&& BitVec.ofInt 64 (b:Int)).toNat:Int)=_;rw[BitVec.toNat_and,lE a ha,lE b hb,IntKind.wrap_i64];omega
end
theorem a2q {p:Prop}(h:p:=by
 intro w xs ys x y op hx hy js;match xs,ys,hx,hy with
 |[a0,a1,a2,a3],[b0,b1,b2,b3],_,_=>
  clear hx hy;rcases js with rfl|rfl<;>(simp only[Xl,Xp];go_simp)<;>by_cases h0:a0=b0<;>by_cases h1:a1=b1<;>by_cases h2:a2=b2<;>by_cases h3:a3=b3<;>simp[bne,h0,h1,h2,h3]):p:=h
theorem a2w {p:Prop}(h:p:=by
 intro w xs ys x y op hx hy js;match xs,ys,hx,hy with
 |[a0,a1],[b0,b1],_,_=>
  clear hx hy;rcases js with rfl|rfl<;>(simp only[Xl,Xp];go_simp)<;>by_cases h0:a0=b0<;>by_cases h1:a1=b1<;>simp[bne,h0,h1]):p:=h
def nj:Nat->Option TI
 |3=>some {zero:=[.int .i64 0],int:=some .i64}
 |4=>some {bytes:=1,zero:=[.bool false],kind:=1}
 |37=>some {zero:=[.int .i64 0],int:=some .i64}
 |32=>some {agg:=true,size:=2,bytes:=16,zero:=[.int .i64 0,.int .i64 0],fields:=[(0,1),(1,1)]}
 |151=>some {agg:=true,size:=3,bytes:=40,zero:=[.int .i64 0,.int .i64 0,.slice none 0 0],fields:=[(0,2),(2,1)]}
 |34=>some {agg:=true,size:=4,bytes:=32,zero:=[.int .i64 0,.int .i64 0,.int .i64 0,.int .i64 0],fields:=[(0,1),(1,1),(2,1),(3,1)]}
 |68=>some {agg:=true,size:=5,bytes:=40,zero:=[.int .i64 0,.int .i64 0,.int .i64 0,.int .i64 0,.int .i64 0],fields:=[(0,2),(2,1),(3,1),(4,1)]}
 |62=>some {agg:=true,size:=9,bytes:=88,zero:=[.int .i64 0,.int .i64 0,.int .i64 0,.int .i64 0,.int .i64 0,.int .i64 0,.int .i64 0,.int .i64 0,.slice none 0 0],fields:=[(0,1),(1,1),(2,2),(4,4),(8,1)]}
 |24=>some {agg:=true,size:=2,bytes:=32,zero:=[.int .i64 0,.slice none 0 0],fields:=[(0,1),(1,1)]}
 |74=>some {agg:=true,size:=2,bytes:=32,zero:=[.int .i64 0,.slice none 0 0],fields:=[(0,1),(1,1)]}
 |71=>some {agg:=true,size:=4,bytes:=48,zero:=[.int .i64 0,.int .i64 0,.int .i64 0,.slice none 0 0],fields:=[(0,1),(1,2),(3,1)]}
 |58=>some {agg:=true,size:=3,bytes:=24,zero:=[.int .i64 0,.int .i64 0,.int .i64 0],fields:=[(0,2),(2,1)]}
 |55=>some {agg:=true,size:=3,bytes:=56,zero:=[.int .i64 0,.slice none 0 0,.slice none 0 0],fields:=[(0,1),(1,1),(2,1)]}
 |76=>some {agg:=true,size:=2,bytes:=16,zero:=[.int .i64 0,.int .i64 0],fields:=[(0,1),(1,1)]}
 |28=>some {agg:=true,size:=2,bytes:=48,zero:=[.slice none 0 0,.slice none 0 0],fields:=[(0,1),(1,1)]}
 |30=>some {agg:=true,size:=4,bytes:=80,zero:=[.int .i64 0,.slice none 0 0,.slice none 0 0,.slice none 0 0],fields:=[(0,2),(2,2)]}
 |36=>some {agg:=true,size:=10,bytes:=80,zero:=[.int .i64 0,.int .i64 0,.int .i64 0,.int .i64 0,.int .i64 0,.int .i64 0,.int .i64 0,.int .i64 0,.int .i64 0,.int .i64 0],fields:=[(0,1),(1,1),(2,1),(3,1),(4,2),(6,4)]}
 |39=>some {agg:=true,size:=4,bytes:=32,zero:=[.int .i64 0,.int .i64 0,.int .i64 0,.int .i64 0],fields:=[(0,1),(1,2),(3,1)]}
 |72=>some {bytes:=24,zero:=[.slice none 0 0],elem:=some 3}
 |232=>some {bytes:=24,zero:=[.slice none 0 0],elem:=some 4}
 |149=>some {bytes:=24,zero:=[.slice none 0 0],elem:=some 32}
 |60=>some {bytes:=24,zero:=[.slice none 0 0],elem:=some 68}
 |22=>some {bytes:=24,zero:=[.slice none 0 0],elem:=some 62}
 |69=>some {bytes:=24,zero:=[.slice none 0 0],elem:=some 74}
 |53=>some {bytes:=24,zero:=[.slice none 0 0],elem:=some 71}
 |52=>some {bytes:=24,zero:=[.slice none 0 0],elem:=some 58}
 |25=>some {bytes:=24,zero:=[.slice none 0 0],elem:=some 55}
 |26=>some {bytes:=24,zero:=[.slice none 0 0],elem:=some 76}
 |46=>some {bytes:=24,zero:=[.slice none 0 0],elem:=some 36}
 |47=>some {bytes:=24,zero:=[.slice none 0 0],elem:=some 39}
 |95=>some {agg:=true,size:=3,bytes:=24,zero:=[.int .i64 0,.int .i64 0,.int .i64 0],fields:=[(0,2),(2,1)]}
 |86=>some {agg:=true,size:=18,bytes:=192,zero:=[.int .i64 0,.slice none 0 0,.slice none 0 0,.slice none 0 0,.int .i64 0,.int .i64 0,.int .i64 0,.int .i64 0,.int .i64 0,.int .i64 0,.int .i64 0,.int .i64 0,.int .i64 0,.int .i64 0,.int .i64 0,.int .i64 0,.int .i64 0,.int .i64 0],fields:=[(0,4),(4,10),(14,4)]}
 |5=>some {bytes:=1,zero:=[.int .u8 0],int:=some .u8}
 |9=>some {bytes:=16,zero:=[.string ByteArray.empty],kind:=2}
 |21=>some {bytes:=4,zero:=[.int .i32 0],int:=some .i32}
 |83=>some {zero:=[.pointer none],kind:=3}
 |104=>some {zero:=[.pointer none],kind:=3}
 |107=>some {zero:=[.pointer none],kind:=3}
 |117=>some {zero:=[.pointer none],kind:=3}
 |147=>some {zero:=[.pointer none],kind:=3}
 |210=>some {zero:=[.pointer none],kind:=3}
 |214=>some {zero:=[.pointer none],kind:=3}
 |234=>some {zero:=[.int .u64 0],int:=some .u64}
 |281=>some {bytes:=4,zero:=[.int .u32 0],int:=some .u32}
 |283=>some {zero:=[.int .u64 0],int:=some .u64}
 |108=>some {zero:=[.map none],kind:=4,mp:=some (1,false)}
 |109=>some {zero:=[.map none],kind:=4,mp:=some (1,false)}
 |92=>some {zero:=[.map none],kind:=4,mp:=some (3,true)}
 |_=>none
theorem QB:∀t ti,nj t=some ti->aV prog t=some ti:=by
 intro t ti h;unfold nj at h;split at h<;>first|(cases h;kernel_rfl)|cases h
theorem JT:Dl prog 32 2:=a2w
theorem QC:Dl prog 34 4:=a2q
theorem MJ:Dl prog 68 5:=by
 intro w xs ys x y op hx hy js;match xs,ys,hx,hy with
 |[a0,a1,a2,a3,a4],[b0,b1,b2,b3,b4],_,_=>
  clear hx hy;rcases js with rfl|rfl<;>(simp only[Xl,Xp];go_simp)<;>by_cases h0:a0=b0<;>by_cases h1:a1=b1<;>by_cases h2:a2=b2<;>by_cases h3:a3=b3<;>by_cases h4:a4=b4<;>simp[bne,h0,h1,h2,h3,h4]
theorem MK:Dl prog 58 3:=by
 intro w xs ys x y op hx hy js;match xs,ys,hx,hy with
 |[a0,a1,a2],[b0,b1,b2],_,_=>
  clear hx hy;rcases js with rfl|rfl<;>(simp only[Xl,Xp];go_simp)<;>by_cases h0:a0=b0<;>by_cases h1:a1=b1<;>by_cases h2:a2=b2<;>simp[bne,h0,h1,h2]
theorem QD:Dl prog 76 2:=a2w
theorem JU:Dl prog 39 4:=a2q
def vU:Nat->Option Nat
 |32=>some 2
 |34=>some 4
 |68=>some 5
 |58=>some 3
 |76=>some 2
 |39=>some 4
 |_=>none
theorem QE:MapOK prog 108 1 false:=AB underlying108 underlying3 aK
theorem QF:MapOK prog 109 1 false:=AB underlying109 underlying3 aK
theorem TX:KeyOK prog 95 3 true:=by
 refine Mn aK (fun em w xs hx=>?_) (fun w xs ys hx hy=>?_)
 ·match xs,hx with
  |[a0,a1,a2],_=>
   clear hx;simp only[jR,if_true,Xl,Xp];have key:∀n,(Instr.checkKey em (n+1+1+1) 95 (.agg #[.int .i64 a0,.int .i64 a1,.int .i64 a2])).run prog w= .ok () w:=by
    intro n;simp[Instr.checkKey,run_underlying underlying3,run_underlying underlying32,run_underlying underlying95,part,isAgg,go_sem]
   exact key 9997
 ·match xs,ys,hx,hy with
  |[a0,a1,a2],[b0,b1,b2],_,_=>
   clear hx hy;simp only[jR,if_true,Xl,Xp];show (Op.equalIn 10000 95 _ _).run _ _=_;go_simp
   by_cases h0:a0=b0<;>by_cases h1:a1=b1<;>by_cases h2:a2=b2<;>simp[h0,h1,h2]
theorem TY:MapOK prog 92 3 true:=by
 obtain⟨i,hi,hz⟩:=XB.1 (show (prog.info? 3).map (·.zero)=some (some (.int .i64 0)) by kernel_rfl);exact⟨95,3,i,underlying92,hi,hz,TX⟩
theorem QG:∀t ti n s,nj t=some ti->ti.mp=some (n,s)->MapOK prog t n s:=by
 intro t ti n s h hm;unfold nj at h;split at h
 ·cases h;cases hm
 ·cases h;cases hm
 ·cases h;cases hm
 ·cases h;cases hm
 ·cases h;cases hm
 ·cases h;cases hm
 ·cases h;cases hm
 ·cases h;cases hm
 ·cases h;cases hm
 ·cases h;cases hm
 ·cases h;cases hm
 ·cases h;cases hm
 ·cases h;cases hm
 ·cases h;cases hm
 ·cases h;cases hm
 ·cases h;cases hm
 ·cases h;cases hm
 ·cases h;cases hm
 ·cases h;cases hm
 ·cases h;cases hm
 ·cases h;cases hm
 ·cases h;cases hm
 ·cases h;cases hm
 ·cases h;cases hm
 ·cases h;cases hm
 ·cases h;cases hm
 ·cases h;cases hm
 ·cases h;cases hm
 ·cases h;cases hm
 ·cases h;cases hm
 ·cases h;cases hm
 ·cases h;cases hm
 ·cases h;cases hm
 ·cases h;cases hm
 ·cases h;cases hm
 ·cases h;cases hm
 ·cases h;cases hm
 ·cases h;cases hm
 ·cases h;cases hm
 ·cases h;cases hm
 ·cases h;cases hm
 ·cases h;cases hm
 ·cases h;cases hm
 ·cases h;cases hm
 ·cases h;cases hm
 ·cases h;cases hm;exact QE
 ·cases h;cases hm;exact QF
 ·cases h;cases hm;exact TY
 ·cases h
theorem ag:TabOK prog nj vU:=by
 refine⟨QB,fun t n h=>?_,QG⟩;unfold vU at h;split at h
 ·cases h;exact JT
 ·cases h;exact QC
 ·cases h;exact MJ
 ·cases h;exact MK
 ·cases h;exact QD
 ·cases h;exact JU
 ·cases h
theorem cS {P:Program}{f:Nat}{fn:Func}{c:Code}(hf:P.funcs[f]? =some fn)(Xe:(fn.name== "runtime.NumGoroutine")=false)(hb:fn.body=some c):zB P f:=by
 intro args w;simp[callFunc,hf,hb];simpa using Xe
theorem V5:(some true==some true)=true:=rfl
theorem V6:(some false==some false)=true:=rfl
theorem V7:(some true==some false)=false:=rfl
theorem V8:(some false==some true)=false:=rfl
theorem V9:((none:Option Bool)==some true)=false:=rfl
theorem Wa:((none:Option Bool)==some false)=false:=rfl
section
variable {P:Program}{n m:Nat}{T:Nat->Option TI}{Q:Nat->Option Nat}{K:Exit->bU->List Chunk->Prop}{e:bU}{h:List Chunk}
def xn (C:bU->List Chunk->Prop)(K:Exit->bU->List Chunk->Prop):Exit->bU->List Chunk->Prop
 | .normal,e,h=>C e h
 |x,e,h=>K x e h
theorem Ic [Flo]{a b:Code}(hp:∀C:bU->List Chunk->Prop,(∀e h,uZ P n m b K e h->C e h)->uZ P n m a (xn C K) e h):uZ P n m (.seq a b) K e h:=by
 intro X hX hn oS ac w hr;have:=hp (fun e h=>uZ P n m b K e h) (fun _ _ h=>h) X hX hn oS ac w hr;refine wp_seq (wp_mono this fun ex a' w' hq=>?_);obtain⟨e',h',hk,hr'⟩:=hq;cases ex with
 |normal=>exact hk X hX hn oS a' w' hr'
 |_=>exact⟨e',h',hk,hr'⟩
def ua (id:Nat)(C:bU->List Chunk->Prop)(K:Exit->bU->List Chunk->Prop):Exit->bU->List Chunk->Prop
 | .normal,e,h=>C e h
 | .exit i,e,h=>if i=id then C e h else K (.exit i) e h
 |x,e,h=>K x e h
theorem JV [Flo]{id:Nat}{c:Code}(hp:∀C:bU->List Chunk->Prop,(∀e h,K .normal e h->C e h)->uZ P n m c (ua id C K) e h):uZ P n m (.block id c) K e h:=by
 intro X hX hn oS ac w hr;have:=hp (fun e h=>K .normal e h) (fun _ _ h=>h) X hX hn oS ac w hr;refine wp_block (wp_mono this fun ex a' w' hq=>?_);obtain⟨e',h',hk,hr'⟩:=hq;cases ex with
 |exit i=>
  simp only[Exit.inBlock,ua]at*;by_cases hi:i=id
  ·rw[ah hi]at hk ⊢;exact⟨e',h',hk,hr'⟩
  ·rw[af hi]at hk ⊢;exact⟨e',h',hk,hr'⟩
 |_=>exact⟨e',h',hk,hr'⟩
def TZ [Flo](P:Program)(g:Option Bool)(r:SR)(dst:Option Nat)(e:bU)(h:List Chunk)(sm:List (List Nat × List Nat))(R:bU->List Chunk->List (List Nat × List Nat)->Prop):Prop:=
 match g with
 |some true=>B0 P r dst e h sm R
 |some false=>R (gW e dst (.d (.v undef))) h (([],[])::sm)
 |none=>False
section
variable {sm:List (List Nat × List Nat)}{dst:Option Nat}{R:bU->List Chunk->List (List Nat × List Nat)->Prop}
theorem T0 [Flo]{g:Nat}{ps:List PV}{ds:List D}{r:D}(hv:V4 (az h) ps=some ds)(hp:ai P g ds r)(hf:TS (az h) ps=[]\/r.flat=true)(hR:R (gW e dst (.d r)) h (([],TS (az h) ps)::sm)):B0 P (.call g ps) dst e h sm R:=
 .inl ⟨ds,r,hv,hp,hf,hR⟩
theorem T3 [Flo](ls:List Nat){g:Nat}{ps args:List PV}{h0 h1:List Chunk}{r:PV}(hM:MSpec P g args h0 r h1)(mA:ps=jx (eU ls h.length) args)(hl:ls.length=h0.length)(ml:ls.Nodup)(hlt:∀k∈ls,k < h.length)(jM:bF (az h) (eU ls h.length) 0 h0)
 (hR:R (gW e dst (ren (eU ls h.length) r)) (jf (eU ls h.length) 0 h1 h) ((qY ls h.length h1.length,qY ls h.length h1.length)::sm)):B0 P (.call g ps) dst e h sm R:=
 .inr (.inl ⟨ls,args,h0,r,h1,hM,mA,hl,ml,hlt,jM,hR⟩)
end
theorem JW [Flo]{draw:Bool}{ops:Array Oper}{ds:List (Option Nat)}{o:Oper}{l:List Oper}{sm:List (List Nat × List Nat)}{K:bU->List Chunk->Prop}(hd:DV n o=true)
 (hp:∀R:bU->List Chunk->List (List Nat × List Nat)->Prop,(∀e h sm,t8 P n T Q draw ops ds l e h sm K->R e h sm)->TZ P (t7 ds e o) (PT T Q e h o) o.dst e h sm R):t8 P n T Q draw ops ds (o::l) e h sm K:=by
 have hp:=hp (t8 P n T Q draw ops ds l · · · K) fun _ _ _ h=>h;unfold t8;unfold TZ at hp;split at hp
 ·rename_i g hg;rw[hg];exact⟨hd,fun _=>hp,fun h=>by cases h⟩
 ·rename_i g hg;rw[hg];exact⟨hd,(fun h=>(by cases h)),fun _=>hp⟩
 ·exact hp.elim
theorem ML [Flo]{c:Operand}{a b:Code}{t:Bool}(hc:dA e c= .d (.v (.bool t)))(h1:t=true->uZ P n m a K e h)(h2:t=false->uZ P n m b K e h):uZ P n m (.cond c a b) K e h:=by
 intro X hX hn oS ac w hr;have hv:ac.eval c= .bool t:=by
  obtain⟨cx,kY⟩:=hr;exact di kY ((aG e h c).trans hc)
 refine wp_cond hv ?_;cases t with
 |true=>exact h1 rfl X hX hn oS ac w hr
 |false=>exact h2 rfl X hX hn oS ac w hr
theorem MM [Flo](h1:K .normal e h):uZ P n m .skip K e h:=fun X _ _ _ a w hr=>wp_skip ⟨e,h,h1,hr⟩
theorem MN [Flo]{id:Nat}(h1:K (.exit id) e h):uZ P n m (.exit id) K e h:=fun X _ _ _ a w hr=>wp_exit ⟨e,h,h1,hr⟩
theorem QH [Flo](h1:K .ret e h):uZ P n m .ret K e h:=fun X _ _ _ a w hr=>wp_ret ⟨e,h,h1,hr⟩
theorem JX [Flo]{l:Nat}(h1:K .normal e h):uZ P n m (.label l) K e h:=fun X _ _ _ a w hr=>wp_label ⟨e,h,h1,hr⟩
theorem DZ [Flo]{c:Code}(I:Nat->bU->List Chunk->Prop)(mm:Nat)(e1:bU)(h1:List Chunk)(h0:I mm e1 h1)(hw:cG P n m e h e1 h1)
 (hr:∀k e h,I k e h->∀C:bU->List Chunk->Prop,(∀k' e1 h1 e h,k' < k->I k' e1 h1->cG P n m e h e1 h1->C e h)->uZ P n m c (xn C K) e h):uZ P n m (.loop c) K e h:=by
 intro X hX hn oS a w kT;refine wp_loop_ghost (fun k a w=>∃e h,I k e h/\eQ X (bs e h) a w) mm ⟨e1,h1,h0,hw X hX hn oS a w kT⟩ ?_;rintro k a w ⟨e,h,hI,kT⟩;have:=hr k e h hI (fun e' h'=>∃k' e1 h1,k' < k/\I k' e1 h1/\cG P n m e' h' e1 h1) (fun k' e1 h1 e h a b c=>⟨k',e1,h1,a,b,c⟩) X hX hn oS a w kT;refine wp_mono this fun ex a' w' hq=>?_;obtain⟨e',h',hk,hr'⟩:=hq;cases ex with
 |normal=>
  obtain⟨k',e2,h2,hlt,mY,cM⟩:=hk;exact⟨k',hlt,e2,h2,mY,cM X hX hn oS a' w' hr'⟩
 |_=>exact⟨e',h',hk,hr'⟩
end
theorem ub [Flo]{P:Program}{n m:Nat}{e e':bU}{h:List Chunk}(hl:∀t,dP e' t= .any\/dP e' t=dP e t):cG P n m e h e' h:=by
 intro X _ _ _ a w hr;obtain⟨c,hc⟩:=hr;refine⟨c,hc.size,hc.defers,hc.ext,hc.inv,hc.fresh,hc.mu,hc.new,hc.apart,fun t=>?_,hc.chunk,hc.lent⟩;show RepP c w (dP e' t) _;rcases hl t with h|h
 ·rw[h];exact .any _
 ·rw[h];exact hc.env t
theorem am:prog.follows .mixedOrders=true:=aK
theorem cG.refl [Flo](P:Program)(n m:Nat)(e:bU)(h:List Chunk):cG P n m e h e h:=fun _ _ _ _ _ _ h=>h
theorem iu (l:List (List D))(i:Nat):(ab l)[i]? =(l[i]?).map (·.map .d):=by simp[ab]
theorem aH (l:List (List D)):(ab l).length=l.length:=by simp[ab]
theorem aI (a b:List (List D)):ab a++ab b=ab (a++b):=by simp[ab]
theorem a1W {p:Prop}(h:p:=by
 have bo:=hf.chunk i;simp only[bs,dh]at bo ⊢;generalize cw ([k].map fun k=>(k,.gone)) (az h) i=ch at bo;cases bo with
 |none h1 h2=>exact .none h1 h2
 |gone=>exact .gone
 |mp nB sB ents b h1 h2 h3=>exact .mp nB sB ents b h1 h2 h3
 |it nB sB ents seen b bm h1 h2 h3 h4=>exact .it nB sB ents seen b bm h1 h2 h3 h4
 |box T cells b vs h1 h2 h3 h4=>
  refine .box T _ b vs h1 h2 (by rw[iw];exact keys _ _ h3) (fun d hd=>?_);rw[iw]at hd;obtain⟨y,hy,rfl⟩:=XF.1 hd;exact one y (h4 y hy)
 |row E' sz' g' rows' v xs h1 h2 h3 h4 h5 h6=>
  refine .row E' sz' g' _ v xs h1 (by rw[kA,Xs];exact h2) (by rw[kA,<-Z1];exact keys _ _ h3) (fun r hr=>?_) (fun r hr d hd=>?_) h6
  ·rw[kA]at hr;obtain⟨y,hy,rfl⟩:=XF.1 hr;rw[Xs];exact h4 y hy
  ·rw[kA]at hr;obtain⟨y,hy,rfl⟩:=XF.1 hr;obtain⟨z,hz,rfl⟩:=XF.1 hd;exact one z (h5 y hy z hz)):p:=h
theorem a3a {p:Prop}(h:p:=by
 intro l vs hl;refine⟨by rw[Xs];exact hl.1,fun j d x hj hx=>?_⟩;rw[Xr,XB]at hj;obtain⟨y,hy,rfl⟩:=hj;exact key _ _ (hl.2 j y x hy hx)):p:=h
theorem a3b {p:Prop}(h:p:=by
 simp only[fz,iw];refine .clo f _ vs (by rw[Xs];exact hl) fun j d x hj hx=>?_;rw[Xr,XB]at hj;obtain⟨y,hy,rfl⟩:=hj;exact ih j y x hy hx):p:=h
theorem a3d {p:Prop}(h:p:=by
 simp only[fz,iw];refine .tup _ vs (by rw[Xs];exact hl) fun j d x hj hx=>?_;rw[Xr,XB]at hj;obtain⟨y,hy,rfl⟩:=hj;exact ih j y x hy hx):p:=h
theorem a3y {p:Prop}(h:p:=by
 intro i;rw[B3,lC,XG];by_cases e:i=k
 ·subst e;rw[ah rfl,ah hlt,ah ak];rfl
 ·rw[af e,af (by simpa using e)]):p:=h
theorem a4L {p:Prop}(h:p:=by
 rw[Xr,XB]at hj;obtain⟨y,hy,rfl⟩:=hj;exact ih j y x hy hx):p:=h
theorem a4P {p:Prop}(h:p:=by
 simp only[bs,dh,oU]at hb hb';exact hf.apart i j b hb hb'):p:=h
theorem oc {h:List Chunk}{k:Nat}(hk:az h k≠ .none):k < h.length:=by
 induction h generalizing k with
 |nil=>simp[az]at hk
 |cons c l ih=>
  cases k with
  |zero=>simp
  |succ k=>simpa using ih (by simpa[az]using hk)
def Cx.cut (c:Cx)(n:Nat):Cx:={M:=c.M,bl:=fun k=>if k < n then c.bl k else none,ov:=fun k g=>if k < n then c.ov k g else none}
theorem RepP.cut [Flo]{c:Cx}{w:World}{n:Nat}{p:PV}{v:Value}(h:RepP c w p v):ay n p=true->RepP (c.cut n) w p v:=by
 induction h with
 |d x v h=>intro _;exact .d x v h
 |any v=>intro _;exact .any v
 |ptr k off b h=>intro hb;simp only[ay,decide_eq_true_eq]at hb;exact .ptr k off b (by show (if k < n then c.bl k else none)=_;rw[ah hb];exact h)
 |own k g v h h1=>intro hb;simp only[ay,decide_eq_true_eq]at hb;exact .own k g v (by show (if k < n then c.ov k g else none)=_;rw[ah hb];exact h) h1
 |rp k g sz i j b m cap h=>intro hb;simp only[ay,decide_eq_true_eq]at hb;exact .rp k g sz i j b m cap (by show (if k < n then c.ov k g else none)=_;rw[ah hb];exact h)
 |osl k g sz a m b o N cap h hn hc h2=>intro hb;simp only[ay,decide_eq_true_eq]at hb;exact .osl k g sz a m b o N cap (by show (if k < n then c.ov k g else none)=_;rw[ah hb];exact h) hn hc h2
 |mref k b h=>intro hb;simp only[ay,decide_eq_true_eq]at hb;exact .mref k b (by show (if k < n then c.bl k else none)=_;rw[ah hb];exact h)
 |agg caps vs hl h1 aU ih=>
  intro hb;simp only[ay]at hb;exact .agg caps vs hl h1 fun j d x hj hx=>ih j d x hj hx (j8 hb d (Xk hj))
 |tup caps vs hl aU ih=>
  intro hb;simp only[ay]at hb;exact .tup caps vs hl fun j d x hj hx=>ih j d x hj hx (j8 hb d (Xk hj))
 |clo g caps vs hl aU ih=>
  intro hb;simp only[ay]at hb;exact .clo g caps vs hl fun j d x hj hx=>ih j d x hj hx (j8 hb d (Xk hj))
theorem xo:∀{e e':bU},BU e e'->∀t,dP e' t= .any\/dP e' t=dP e t
 |_,[],_,_=> .inl rfl
 |e,(t',p)::l,⟨h1,h2⟩,t=>by
  simp only[dP];by_cases ht:t=t'
  ·rw[ah ht,ht];exact .inr h1.symm
  ·rw[af ht];exact xo h2 t
theorem qb:∀(h x:List Chunk) (k:Nat),k < h.length->az (h++x) k=az h k
 |c::l,x,0,_=>rfl
 |c::l,x,k+1,hk=>by simpa[az]using qb l x k (by simpa using hk)
theorem od:∀(h:List Chunk) (k:Nat),h.length<=k->az h k= .none
 |[],_,_=>rfl
 |c::l,0,h=>by simp at h
 |c::l,k+1,h=>by simpa[az]using od l k (by simpa using h)
theorem ey [Flo]{P:Program}{n m:Nat}{e e':bU}{h h':List Chunk}(x:List Chunk)(hm:m<=h'.length)(hh:h=h'++x)(he:BU e e')(hb:eD h'.length e'=true)(hbh:aL h'.length h'=true):cG P n m e h e' h':=by
 intro X _ _ oS a w hr;obtain⟨c,hc⟩:=hr;subst hh;have hf:=hc.freeze ((X4 x.length).map (h'.length+ ·));have gA:∀k,k∈(X4 x.length).map (h'.length+ ·)↔h'.length<=k/\k < h'.length+x.length:=by
  intro k;simp only[XF,YO];constructor
  ·rintro⟨j,hj,rfl⟩;omega
  ·intro hk;exact⟨k - h'.length,by omega,by omega⟩
 have Af:∀k,k < h'.length->cw (((X4 x.length).map (h'.length+ ·)).map fun k=>(k,.gone)) (az (h'++x)) k=az h' k:=by
  intro k hk;rw[lC,af (fun h=>by have:=(gA k).1 h;omega),qb h' x k hk]
 have Jl:∀k,h'.length<=k->∀c:Cx,c.block k (cw (((X4 x.length).map (h'.length+ ·)).map fun k=>(k,.gone)) (az (h'++x)) k)=none:=by
  intro k hk c;rw[lC];split
  ·rfl
  ·rename_i hn;have:h'.length+x.length<=k:=by
    rcases XL k (h'.length+x.length)with h1|h1
    ·exact absurd ((gA k).2 ⟨hk,h1⟩) hn
    ·exact h1
   rw[od _ k (by simpa using this)];rfl
 generalize mV:({c with M:=li c (bs e (h'++x)).heap ((X4 x.length).map (h'.length+ ·))}:Cx)=cc at hf;have cu:∀k,(cc.cut h'.length).block k (az h' k)=if k < h'.length then cc.block k (az h' k)else none:=by
  intro k;by_cases hk:k < h'.length
  ·rw[ah hk];cases az h' k<;>simp[Cx.block,Cx.cut,hk]
  ·rw[af hk,od h' k aa];rfl
 have hold:∀k b,(cc.cut h'.length).block k (az h' k)=some b->cc.block k (cw (((X4 x.length).map (h'.length+ ·)).map fun k=>(k,.gone)) (az (h'++x)) k)=some b:=by
  intro k b hb;rw[cu]at hb;split at hb
  ·rename_i hk;rw[Af k hk];exact hb
  ·cases hb
 refine⟨cc.cut h'.length,hf.size,hf.defers,hf.ext,hf.inv,hf.fresh,fun b=>?_,fun k b hb=>hf.new k b (hold k b hb),fun k k' b hb hb'=>hf.apart k k' b (hold k b hb) (hold k' b hb'),fun t=>?_,fun k=>?_,fun k hk=>?_⟩
 ·show cc.M b↔_;rw[hf.mu b];constructor
  ·rintro (h0|⟨k,hk⟩)
   ·exact .inl h0
   ·refine .inr ⟨k,?_⟩;show (cc.cut h'.length).block k (az h' k)=_;rw[cu];rcases XL k h'.length with h1|h1
    ·rw[ah h1];have:=Af k h1;simp only[bs]at hk;rw[this]at hk;exact hk
    ·simp only[bs]at hk;rw[Jl k h1]at hk;cases hk
  ·rintro (h0|⟨k,hk⟩)
   ·exact .inl h0
   ·exact .inr ⟨k,hold k b hk⟩
 ·show RepP (cc.cut h'.length) w (dP e' t) _;rcases xo he t with h0|h0
  ·rw[h0];exact .any _
  ·have h1:=wU hb t;rw[h0]at h1 ⊢;exact(hf.env t).cut h1
 ·show ChunkOK (cc.cut h'.length) w k (az h' k);rcases XL k h'.length with h1|h1
  ·have bo:=hf.chunk k;simp only[bs]at bo;rw[Af k h1]at bo;have Jm:=tV hbh k;have uJ:(cc.cut h'.length).bl k=cc.bl k:=by show (if k < h'.length then cc.bl k else none)=_;rw[ah h1]
   have ec:∀g,(cc.cut h'.length).ov k g=cc.ov k g:=fun g=>by show (if k < h'.length then cc.ov k g else none)=_;rw[ah h1]
   cases HJ:az h' k with
   |none=>rw[HJ]at bo;cases bo with|none q1 q2=>exact .none (by rw[uJ];exact q1) (fun g=>by rw[ec];exact q2 g)
   |gone=>exact .gone
   |box T cells=>
    rw[HJ]at bo Jm;cases bo with
    |box _ _ b vs q1 q2 q3 q4=>
     exact .box T cells b vs (by rw[uJ];exact q1) q2 ⟨q3.1,fun j d v hj hv=>(q3.2 j d v hj hv).cut (j8 (by simpa[aQ]using Jm) d (Xk hj))⟩ q4
   |mp nB sB ents=>
    rw[HJ]at bo;cases bo with
    |mp _ _ _ b q1 q2 q3=>exact .mp nB sB ents b (by rw[uJ];exact q1) q2 q3
   |it nB sB ents seen=>
    rw[HJ]at bo;cases bo with
    |it _ _ _ _ b bm q1 q2 q3 q4=>exact .it nB sB ents seen b bm (by rw[uJ];exact q1) q2 q3 q4
   |row E sz g rows=>
    rw[HJ]at bo Jm;cases bo with
    |row _ _ _ _ v xs q1 q2 q3 q4 q5 q6=>exact .row E sz g rows v xs (by rw[ec];exact q1) q2 ⟨q3.1,fun j d v hj hv=>(q3.2 j d v hj hv).cut (j8 (uX (by simpa[aQ]using Jm)) d (Xk hj))⟩ q4 q5 (fun g' hg=>by rw[ec];exact q6 g' hg)
  ·rw[od h' k h1];refine .none ?_ fun g=>?_
   ·show (if k < h'.length then cc.bl k else none)=_;rw[af aa]
   ·show (if k < h'.length then cc.ov k g else none)=_;rw[af aa]
 ·have hk':k < h'.length:=aa;obtain⟨q1,q2⟩:=hf.lent k hk;refine⟨?_,fun g v hv=>?_⟩
  ·show (if k < h'.length then cc.bl k else none)=_;rw[ah hk'];exact q1
  ·show (if k < h'.length then cc.ov k g else none)=_;rw[ah hk'];exact q2 g v hv
theorem cG.trans [Flo]{P:Program}{n m:Nat}{e e' e'':bU}{h h' h'':List Chunk}(h1:cG P n m e h e' h')(h2:cG P n m e' h' e'' h''):cG P n m e h e'' h'':=fun X hX hn hm a w hr=>h2 X hX hn hm a w (h1 X hX hn hm a w hr)
theorem kF (h:List Chunk)(c:Chunk)(k:Nat):az (h++[c]) k=if k=h.length then c else az h k:=by
 rcases Y9 k h.length with h1|h1|h1
 ·rw[qb h [c] k h1,af aa]
 ·subst h1;rw[ah rfl];induction h with
  |nil=>rfl
  |cons a l ih=>exact ih
 ·rw[af aa,od _ k aN,od h k aa]
theorem du [Flo]{P:Program}{n m:Nat}{e:bU}{h:List Chunk}(nQ:m<=h.length)(t E sz:Nat)(ht:dP e t= .d (.v (.slice none 0 0))):cG P n m e h ((t,.own h.length 0)::e) (h++[.row E sz 0 []]):=by
 intro X _ _ oS a w hr;obtain⟨c,hc⟩:=hr;obtain⟨c',q1,q2⟩:=hc.new_row (k:=h.length) (w':=w) (gV h) aa E sz [] (.slice none 0 0) [] (Below.refl _ _) .nil (fun b hb=>by cases hb) ⟨rfl,fun j d x h=>by simp at h⟩ ak ak;have hv:a.tmps.getD t undef= .slice none 0 0:=hc.bool ht;refine⟨c',q1.size,q1.defers,q1.ext,q1.inv,q1.fresh,?_,?_,?_,fun t'=>?_,?_,q1.lent⟩
 ·intro b;have:=q1.mu b;simp only[rY,bs]at this ⊢;simpa[kF]using this
 ·intro k b;have:=q1.new k b;simp only[rY,bs]at this ⊢;simpa[kF]using this
 ·intro k k' b;have:=q1.apart k k' b;simp only[rY,bs]at this ⊢;simpa[kF]using this
 ·simp only[bs,dP];by_cases h1:t'=t
  ·subst h1;rw[ah rfl,hv];exact q2
  ·rw[af h1];exact q1.env t'
 ·intro k;have:=q1.chunk k;simp only[rY,bs]at this ⊢;simpa[kF]using this
theorem ax [Flo]{P:Program}{n m:Nat}{e:bU}{h:List Chunk}(nQ:m<=h.length)(kb T:Nat)(cells:List PV)(j E sz:Nat)(hk:az h kb= .box T cells)(hj:cells[j]? =some (.d (.v (.slice none 0 0)))){h':List Chunk}(hh:h'=bw h kb (.box T (aC cells j [.own h.length 0]))++[.row E sz 0 []]):cG P n m e h e h':=by
 intro X _ _ oS a w hr;subst hh;obtain⟨c,hc⟩:=hr;obtain⟨c',q1,q2⟩:=hc.new_row (k:=h.length) (w':=w) (gV h) aa E sz [] (.slice none 0 0) [] (Below.refl _ _) .nil (fun b hb=>by cases hb) ⟨rfl,fun j d x h=>by simp at h⟩ ak ak;have hlt:kb < h.length:=oc (by rw[hk];simp);have Pm:j < cells.length:=(Xm.1 hj).1;have rS:(bw h kb (.box T (aC cells j [.own h.length 0]))).length=h.length:=by
  have:∀(l:List Chunk) (k:Nat) (c:Chunk),k < l.length->(bw l k c).length=l.length:=by
   intro l;induction l with
   |nil=>intro k c hk;simp at hk
   |cons a l ih=>
    intro k c hk;cases k with
    |zero=>rfl
    |succ k=>simp only[bw,XC];rw[ih k c (by simpa using hk)]
  exact this h kb _ hlt
 have dh:∀k,az (bw h kb (.box T (aC cells j [.own h.length 0]))++[.row E sz 0 []]) k=if k=h.length then .row E sz 0 []else if k=kb then .box T (aC cells j [.own h.length 0])else az h k:=by
  intro k;rw[kF,rS,ir aa]
 have hold:∀k,cw [(h.length,Chunk.row E sz 0 [])] (az h) k=if k=h.length then .row E sz 0 []else az h k:=fun k=>rfl;have cu:∀k,c'.block k (az (bw h kb (.box T (aC cells j [.own h.length 0]))++[.row E sz 0 []]) k)=c'.block k (cw [(h.length,Chunk.row E sz 0 [])] (az h) k):=by
  intro k;rw[dh,hold];by_cases h1:k=h.length
  ·rw[ah h1,ah h1]
  ·rw[af h1,af h1];by_cases h2:k=kb
   ·subst h2;rw[ah rfl,hk];rfl
   ·rw[af h2]
 refine⟨c',q1.size,q1.defers,q1.ext,q1.inv,q1.fresh,?_,?_,?_,q1.env,?_,q1.lent⟩
 ·intro b;have:=q1.mu b;simp only[bs]at this ⊢;simpa only[cu]using this
 ·intro k b;have:=q1.new k b;simp only[bs]at this ⊢;rwa [cu]
 ·intro k k' b;have:=q1.apart k k' b;simp only[bs]at this ⊢;rwa [cu,cu]
 ·intro k;have bo:=q1.chunk k;simp only[bs]at bo ⊢;rw[dh];rw[hold]at bo;by_cases h1:k=h.length
  ·rw[ah h1]at bo ⊢;exact bo
  ·rw[af h1]at bo ⊢;by_cases h2:k=kb
   ·subst h2;rw[ah rfl];rw[hk]at bo;have CW:=hc.chunk k;simp only[bs]at CW;rw[hk]at CW;cases bo with
    |box _ _ b vs g1 g2 g3 g4=>
     have hvj:vs[j]? =some (.slice none 0 0):=by
      have hjv:j < vs.length:=by rw[<-g3.1];exact Pm
      obtain⟨u,hu⟩:∃u,vs[j]? =some u:=⟨_,Xj hjv⟩;have:=g3.2 j _ u hj hu;cases this with
      |d _ _ h=>cases h;exact hu
     have iU:aC vs j [.slice none 0 0]=vs:=by
      apply Yg;intro i;rw[jd (by simp;rw[<-g3.1];exact Pm)];split
      ·rename_i hi;obtain rfl:i=j:=by simp at hi;omega
       rw[hvj];simp
      ·rfl
     have qw:bA c' w [.own h.length 0] [.slice none 0 0]:=⟨rfl,fun i d x hd hx=>by
      cases i with
      |zero=>simp at hd hx;subst hd;subst hx;exact q2
      |succ i=>simp at hd⟩
     have kU:=m8 (off:=j) g3 qw aN;rw[iU]at kU;exact .box T _ b vs g1 g2 kU (fun d hd=>(lA hd).elim (g4 d) (fun hd=>by simp at hd;subst hd;rfl))
   ·rw[af h2];exact bo
mutual
def fz (k g:Nat)(d:D):PV->PV
 | .own k' g'=>if k'=k/\g'=g then .d d else .own k' g'
 | .clo f caps=> .clo f (ee k g d caps)
 | .agg l=> .agg (ee k g d l)
 | .tup l=> .tup (ee k g d l)
 | .d x=> .d x
 | .any=> .any
 | .ptr k' o=> .ptr k' o
 | .rp k' g' sz i j=> .rp k' g' sz i j
 | .osl k' g' sz a n=> .osl k' g' sz a n
 | .mref k'=> .mref k'
def ee (k g:Nat)(d:D):List PV->List PV
 |[]=>[]
 |p::l=>fz k g d p::ee k g d l
end
theorem iw (k g:Nat)(d:D):∀l,ee k g d l=l.map (fz k g d)
 |[]=>rfl
 |p::l=>by simp only[ee,iw k g d l,Xl]
theorem bg (k g:Nat)(d:D):∀(l:List D),ee k g d (l.map .d)=l.map .d
 |[]=>rfl
 |x::l=>by simp only[Xl,ee,fz,bg k g d l]
def d7 (k g:Nat)(d:D):List (List PV)->List (List PV)
 |[]=>[]
 |r::l=>ee k g d r::d7 k g d l
theorem kA (k g:Nat)(d:D):∀l,d7 k g d l=l.map (·.map (fz k g d))
 |[]=>rfl
 |p::l=>by simp only[d7,kA k g d l,iw,Xl]
theorem aZ (k g:Nat)(d:D):∀(l:List (List D)),d7 k g d (ab l)=ab l
 |[]=>rfl
 |x::l=>by
  have:=aZ k g d l;simp only[ab]at this;simp only[ab,Xl,d7,bg,this]
theorem Ie (k g:Nat)(d:D)(l:List (List PV))(i:Nat)(r:List PV):d7 k g d (l.set i r)=(d7 k g d l).set i (ee k g d r):=by
 simp only[kA,iw,ZU]
def eF (k g:Nat)(d:D):Chunk->Chunk
 | .box T cells=> .box T (ee k g d cells)
 | .row E sz g' rows=> .row E sz g' (d7 k g d rows)
 |c=>c
def eM (k g:Nat)(d:D):bU->bU
 |[]=>[]
 |(t,p)::l=>(t,fz k g d p)::eM k g d l
def dX (k g:Nat)(d:D):Nat->List Chunk->List Chunk
 |_,[]=>[]
 |j,c::l=>(if j=k then .gone else eF k g d c)::dX k g d (j+1) l
theorem xp (k g:Nat)(d:D):∀(e:bU) (t:Nat),dP (eM k g d e) t=fz k g d (dP e t)
 |[],t=>rfl
 |(t',p)::l,t=>by
  simp only[eM,dP];by_cases h:t=t'
  ·rw[ah h,ah h]
  ·rw[af h,af h];exact xp k g d l t
theorem B3 (k g:Nat)(d:D):∀(h:List Chunk) (j i:Nat),az (dX k g d j h) i=if i+j=k then (if i < h.length then .gone else .none)else eF k g d (az h i)
 |[],j,i=>by simp[dX,az,eF]
 |c::l,j,0=>by
  simp only[dX,az,Xw,XC,Nat.zero_lt_succ,if_true]
 |c::l,j,i+1=>by
  simp only[dX,az];rw[B3 k g d l (j+1) i];have e1:(i+(j+1)=k)=(i+1+j=k):=by apply propext;omega
  have e2:(i < l.length)=(i+1 < (c::l).length):=by apply propext;simp
  simp only[e1,e2]
theorem av [Flo]{P:Program}{n m:Nat}{e:bU}{h:List Chunk}(k g E sz:Nat)(rows:List (List D))(hk:az h k= .row E sz g (ab rows)):cG P n m e h (eM k g (.sl sz rows) e) (dX k g (.sl sz rows) 0 h):=by
 intro X _ _ oS a w hr;obtain⟨c,hc⟩:=hr;have hf:=hc.freeze [k];generalize mV:({c with M:=li c (bs e h).heap [k]}:Cx)=cc at hf;have uJ:cc.bl=c.bl:=by rw[<-mV]
 have ec:cc.ov=c.ov:=by rw[<-mV]
 have VS:cc.M=li c (az h) [k]:=by rw[<-mV];rfl
 have hlt:k < h.length:=oc (by rw[hk];simp);have key:∀(p:PV) (v:Value),RepP cc w p v->RepP cc w (fz k g (.sl sz rows) p) v:=by
  intro p v hp;induction hp with
  |own k' g' v h1 h2=>
   simp only[fz];by_cases e:k'=k/\g'=g
   ·rw[ah e];obtain⟨rfl,rfl⟩:=e;refine .d _ _ ?_;rw[VS];have hv:br (bs e h).heap 1 (.own k' g')=some (.sl sz rows):=by
     simp only[br,bs,hk,if_true,eL,Yb]
    exact jv hc (T:=[k']) 1 hv (fun k2 jq=>by simpa[cW,bs,hk,nW]using jq) (.own k' g' v (by rw[<-ec];exact h1) h2)
   ·rw[af e];exact .own k' g' v h1 h2
  |clo f caps vs hl aU ih=>exact a3b
  |agg caps vs hl h1 aU ih=>
   simp only[fz,iw];refine .agg _ vs (by rw[Xs];exact hl) (fun d hd=>?_) fun j d x hj hx=>?_
   ·obtain⟨y,hy,rfl⟩:=XF.1 hd;have:=h1 y hy;cases y<;>simp only[fz]<;>first|exact this|(split<;>first|rfl|exact this)
   ·exact a4L
  |tup caps vs hl aU ih=>exact a3d
  |d x v h1=>exact .d x v h1
  |any v=>exact .any v
  |ptr k' off b h1=>exact .ptr k' off b h1
  |rp k' g' sz' i j b nn cap h1=>exact .rp k' g' sz' i j b nn cap h1
  |osl k' g' sz' a' nn b o N cap h1 h2 h3 h4=>exact .osl k' g' sz' a' nn b o N cap h1 h2 h3 h4
  |mref k' b h1=>exact .mref k' b h1
 have one:∀(y:PV),y.one=true->(fz k g (.sl sz rows) y).one=true:=by
  intro y hy;cases y<;>simp only[fz]<;>first|exact hy|(split<;>first|rfl|exact hy)
 have keys:∀(l:List PV) (vs:List Value),bA cc w l vs->bA cc w (l.map (fz k g (.sl sz rows))) vs:=a3a
 have dh:∀i,az (dX k g (.sl sz rows) 0 h) i=eF k g (.sl sz rows) (cw ([k].map fun k=>(k,.gone)) (az h) i):=a3y
 have oU:∀i ch,cc.block i (eF k g (.sl sz rows) ch)=cc.block i ch:=fun i ch=>by cases ch<;>rfl
 refine⟨cc,hf.size,hf.defers,hf.ext,hf.inv,hf.fresh,fun b=>?_,fun i b hb=>?_,fun i j b hb hb'=>?_,fun t=>?_,fun i=>?_,hf.lent⟩
 ·rw[hf.mu b];simp only[bs,dh,oU]
 ·simp only[bs,dh,oU]at hb;exact hf.new i b hb
 ·exact a4P
 ·show RepP cc w (dP (eM k g (.sl sz rows) e) t) _;rw[xp];exact key _ _ (hf.env t)
 ·exact a1W
theorem aW [Flo]{P:Program}{n m:Nat}{e e':bU}{h h':List Chunk}(he:e=e')(hh:h=h'):cG P n m e h e' h':=by
 subst he;subst hh;exact cG.refl _ _ _ _ _
theorem a2u {p:Prop}(h:p:=by
 clear hl;go_enter func114,ntmps114
 go_wp2_with fail
 go_ret
 exact⟨ce hc.out.symm,(Below.refl _ _).alloc (XA _) _⟩):p:=h
section
open Go.Proofs
def Gy (n:Int):Int:=2 ^ (16 - n).toNat - 1
theorem B4 (n:Int):Gy n=((2 ^ (16 - n).toNat - 1:Nat):Int):=by
 have:=_i (n:=(16 - n).toNat);have h4:((2 ^ (16 - n).toNat:Nat):Int)=(2:Int) ^ (16 - n).toNat:=ak;unfold Gy;omega
theorem xq (n:Int)(h0:0<=n):(2:Int) ^ (16 - n).toNat<=65536/\1<=(2:Int) ^ (16 - n).toNat:=by
 have h1:(16 - n).toNat<=16:=aa;have h2:=Nat.pow_le_pow_right (n:=2) aa h1;have h3:=_i (n:=(16 - n).toNat);have h4:((2 ^ (16 - n).toNat:Nat):Int)=(2:Int) ^ (16 - n).toNat:=ak;omega
theorem re (n:Int)(h0:0<=n):0<=Gy n/\Gy n<=65535:=by
 have:=xq n h0;unfold Gy;omega
theorem pn (n:Int)(w:World)(h0:0<=n)(h1:n<=16):
 Calls prog 49 #[.int .i64 n] w fun e w'=>e= .returned (.int .i64 (Gy n))/\w=w':=by
 have hp:=xq n h0;go_enter func49,ntmps49
 go_wp2
 go_ret
 exact⟨rfl,rfl⟩
def chk (a l:Int):Int:=if l < 0\/l>16\/a < 0\/a>65535 then 3 else if a % 2 ^ (16 - l).toNat=0 then 0 else 1
theorem QI (a l:Int)(h0:0<=a)(h1:a<=65535)(h2:0<=l):bits .and .i64 a (Gy l)=a % 2 ^ (16 - l).toNat:=by
 obtain⟨n,rfl⟩:=Int.eq_ofNat_of_zero_le h0;rw[B4,DY _ _ aa (by have:=re l h2;rw[B4]at this;omega),_e];simp
theorem MO {a l:Int}(h:l < 0\/l>16\/a < 0\/a>65535):chk a l=3:=ah h
theorem Gz {a l:Int}(h1:0<=l)(h2:l<=16)(h3:0<=a)(h4:a<=65535):chk a l=if a % 2 ^ (16 - l).toNat=0 then 0 else 1:=af aa
theorem qc (a l:Int)(w:World):
 Calls prog 114 #[.agg #[.int .i64 a,.int .i64 l]] w fun e w'=>e= .returned (.int .i64 (chk a l))/\dy w w':=by
 by_cases hl:l < 0\/l>16\/a < 0\/a>65535
 ·have hc:=Xi (MO hl);by_cases h1:l < 0
  ·exact a2u
  by_cases h2:l>16
  ·exact a2u
  by_cases h3:a < 0
  ·exact a2u
  have h4:a>65535:=aa;clear hl;go_enter func114,ntmps114
  go_wp2_with fail
  go_ret
  exact⟨ce hc.out.symm,(Below.refl _ _).alloc (XA _) _⟩
 ·have hm:=re l aa;obtain⟨g1,g2,g3,g4⟩:0<=l/\l<=16/\0<=a/\a<=65535:=aa;clear hl;have hc:=Xi (Gz g1 g2 g3 g4);have ha:=Xi (QI a l g3 g4 g1);go_enter func114,ntmps114
  go_wp2_with fail
  go_quiet ((go_at_call 49;exact Calls.quiet_of_same ((pn _ _ aa aa).mono (fun _ _ h=>⟨h.1,h.2.symm⟩))))
  go_wp2_with fail
  ·go_ret
   rename_i h;rw[ha.out]at h;exact⟨ce (by rw[hc.out,af (by simpa using h)]),below_drewN ((Below.refl _ _).alloc (XA _) _) _⟩
  ·go_ret
   rename_i h;rw[ha.out]at h;exact⟨ce (by rw[hc.out,ah (by simpa using h)]),below_drewN ((Below.refl _ _).alloc (XA _) _) _⟩
structure Pfx where
 at_:Int
 len:Int
 deriving DecidableEq
def cP (cs:List Value)(p:Pfx):Prop:=cs=[.int .i64 p.at_,.int .i64 p.len]
def Pfx.chk (p:Pfx):Int:=Go.Proofs.YtmicljipaiohkaaGreat.chk p.at_ p.len
theorem AL {A:mZ}{w:World}{ao:Option Addr}{cap:Nat}{l:List Pfx}(h:Sl A w 2 cP ao cap l):
 Calls prog 48 #[.slice ao l.length cap] w fun e w'=>e= .returned (.bool (l.all fun p=>p.chk==0))/\dy w w':=by
 have gB:=h.cap_le;have LY:=h.cap_max;go_enter func48,ntmps48
 go_wp2_with fail
 go_loopw [7] (fun i wr=>∃k:Nat,k<=l.length/\i= .int .i64 k/\(∀p∈l.take k,p.chk=0)/\Bel w.heap.size w wr) (fun i _=>l.length - (intOf i).toNat)
 case atStart=>exact⟨0,XE _,rfl,by simp,Bel.refl _⟩
 case round=>
  obtain⟨k,hk,rfl,bO,hb⟩:=hrel;by_cases hlt:k < l.length
  ·obtain⟨b,off,cs,hao,-,-,hR,hc⟩:=h.elem k hlt;generalize hp:l[k]=p at hR;unfold cP at hR;subst hR;have LG:=hc 0 ak;have Jn:=hc 1 ak;simp at LG Jn;have uJ:=dI LG;have LG:=hb.cell uJ LG;have Jn:=hb.cell uJ Jn;replace hp:=Xi hp;replace bO:=Xi bO;clear hc;subst hao;go_wp2_with fail
   have hle:=hb.le;refine(qc _ _ _).mono ?_;rintro e w1 ⟨rfl,co⟩;have Tt:Bel w.heap.size w w1:=by exact eA
   replace Tt:=Xi Tt;clear hb;by_cases hz:Go.Proofs.YtmicljipaiohkaaGreat.chk p.at_ p.len=0
   ·have F6:(Go.Proofs.YtmicljipaiohkaaGreat.chk p.at_ p.len !=0)=false:=by simp[hz]
    replace hz:=Xi hz;go_wp2_with fail
    go_roundw
    case rel=>exact⟨k+1,by omega,by go_num,by
     intro q hq;rw[List.take_succ_eq_append_getElem hlt]at hq;rcases X0.1 hq with hq|hq
     ·exact bO.out q hq
     ·rw[Yc.1 hq,hp.out];exact hz.out,Tt.out⟩
    case measure=>simp[intOf];omega
   ·have F6:(Go.Proofs.YtmicljipaiohkaaGreat.chk p.at_ p.len !=0)=true:=by simp[hz]
    go_wp2_with fail
    go_ret
    refine⟨?_,Tt.out.bel⟩;have:(l.all fun p=>p.chk==0)=false:=by
     rw[Y2];exact⟨l[k],Yl hlt,by rw[hp.out];simpa[Pfx.chk]using hz⟩
    rw[this];rfl
  ·obtain rfl:k=l.length:=aa;go_wp2_with fail
   go_ret
   refine⟨?_,hb.bel⟩;have:(l.all fun p=>p.chk==0)=true:=by
    rw[XD];intro p hp;rw[Xq]at bO;simpa using bO p hp
   rw[this];rfl
end
theorem aj {α:Type}{l:List α}{k:Nat}{x:α}(h:l[k]? =some x):l.take (k+1)=l.take k++[x]:=by
 rw[List.take_add_one,h];rfl
structure Lse where
 at_:Pfx
 kind:Int
 owner:Int
 till:Int
 deriving DecidableEq
structure Rul where
 min:Int
 max:Int
 usual:Int
 cool:Int
 deriving DecidableEq
structure Pol where
 id:Int
 up:Int
 root:Pfx
 rule:Rul
 leases:List Lse
 deriving DecidableEq
structure Bok where
 tick:Int
 pools:List Pol
 deriving DecidableEq
@[go_sem] def Wb (n:Int):D:= .v (.int .i64 n)
@[go_sem] def aS (p:Pfx):List D:=[.v (.int .i64 p.at_),.v (.int .i64 p.len)]
@[go_sem] def vV (r:Rul):List D:=[.v (.int .i64 r.min),.v (.int .i64 r.max),.v (.int .i64 r.usual),.v (.int .i64 r.cool)]
@[go_sem] def bc (l:Lse):List D:=[.v (.int .i64 l.at_.at_),.v (.int .i64 l.at_.len),.v (.int .i64 l.kind),.v (.int .i64 l.owner),.v (.int .i64 l.till)]
@[go_sem] def al (p:Pol):List D:=[.v (.int .i64 p.id),.v (.int .i64 p.up),.v (.int .i64 p.root.at_),.v (.int .i64 p.root.len),.v (.int .i64 p.rule.min),.v (.int .i64 p.rule.max),.v (.int .i64 p.rule.usual),.v (.int .i64 p.rule.cool),.sl 5 (p.leases.map bc)]
@[go_sem] def bj (b:Bok):List D:=[.v (.int .i64 b.tick),.sl 9 (b.pools.map al)]
def GC (root:Pfx)(us:List Pfx):List D:=[.v (.int .i64 root.at_),.v (.int .i64 root.len),.sl 2 (us.map aS)]
theorem D0 (p:Pfx):(aS p).length=2:=rfl
structure Fce where
 id:Int
 addrs:List Int
 deriving DecidableEq
structure Sbn where
 id:Int
 at_:Pfx
 faces:List Fce
 deriving DecidableEq
structure Rng where
 at_:Pfx
 pool:Int
 deriving DecidableEq
structure Vpc where
 id:Int
 ranges:List Rng
 subs:List Sbn
 deriving DecidableEq
@[go_sem] def cm (n:Int):List D:=[.v (.int .i64 n)]
@[go_sem] def bR (f:Fce):List D:=[.v (.int .i64 f.id),.sl 1 (f.addrs.map cm)]
@[go_sem] def aT (s:Sbn):List D:=[.v (.int .i64 s.id),.v (.int .i64 s.at_.at_),.v (.int .i64 s.at_.len),.sl 2 (s.faces.map bR)]
@[go_sem] def bp (r:Rng):List D:=[.v (.int .i64 r.at_.at_),.v (.int .i64 r.at_.len),.v (.int .i64 r.pool)]
@[go_sem] def au (v:Vpc):List D:=[.v (.int .i64 v.id),.sl 3 (v.ranges.map bp),.sl 4 (v.subs.map aT)]
theorem xr (f:Fce):(bR f).length=2:=rfl
theorem nl (s:Sbn):(aT s).length=4:=rfl
theorem nm (r:Rng):(bp r).length=3:=rfl
theorem jy (v:Vpc):(au v).length=3:=rfl
structure Lnk where
 a:Int
 b:Int
 deriving DecidableEq
structure Net where
 vpcs:List Vpc
 links:List Lnk
 deriving DecidableEq
@[go_sem] def bS (l:Lnk):List D:=[.v (.int .i64 l.a),.v (.int .i64 l.b)]
@[go_sem] def cN (n:Net):List D:=[.sl 3 (n.vpcs.map au),.sl 2 (n.links.map bS)]
structure Ste where
 book:Bok
 net:Net
 deriving DecidableEq
structure Cmd where
 op:Int
 a:Int
 b:Int
 c:Int
 at_:Pfx
 rule:Rul
 deriving DecidableEq
structure Ans where
 err:Int
 at_:Pfx
 n:Int
 deriving DecidableEq
def Ans.zero:Ans:=⟨0,⟨0,0⟩,0⟩
def Ans.er (e:Int):Ans:=⟨e,⟨0,0⟩,0⟩
def Ste.zero:Ste:=⟨⟨0,[]⟩,⟨[],[]⟩⟩
@[go_sem] def bJ (s:Ste):List D:=[.v (.int .i64 s.book.tick),.sl 9 (s.book.pools.map al),.sl 3 (s.net.vpcs.map au),.sl 2 (s.net.links.map bS)]
@[go_sem] def jp (c:Cmd):List D:=[.v (.int .i64 c.op),.v (.int .i64 c.a),.v (.int .i64 c.b),.v (.int .i64 c.c),.v (.int .i64 c.at_.at_),.v (.int .i64 c.at_.len),.v (.int .i64 c.rule.min),.v (.int .i64 c.rule.max),.v (.int .i64 c.rule.usual),.v (.int .i64 c.rule.cool)]
@[go_sem] def eG (a:Ans):List D:=[.v (.int .i64 a.err),.v (.int .i64 a.at_.at_),.v (.int .i64 a.at_.len),.v (.int .i64 a.n)]
theorem a3L {p:Prop}(h:p:=by
 simp only[bs,dP];by_cases h1:t'=t
 ·subst h1;rw[ah rfl,hv];exact r2
 ·rw[af h1];exact r1.env t'):p:=h
theorem a4l {p:Prop}(h:p:=by
 intro k k' b;have:=r1.apart k k' b;simp only[bs,nO]at this ⊢;exact this):p:=h
theorem a4A {p:Prop}(h:p:=by
 intro k b;have:=r1.new k b;simp only[bs,nO]at this ⊢;exact this):p:=h
theorem a4D {p:Prop}(h:p:=by
 intro k;have:=r1.chunk k;simp only[bs,nO]at this ⊢;exact this):p:=h
theorem a4M {p:Prop}(h:p:=by
 intro b;have:=r1.mu b;simp only[bs,nO]at this ⊢;exact this):p:=h
theorem oe (h:List Chunk)(k:Nat)(ch:Chunk)(hk:k < h.length):az (bw h k ch)=cw [(k,ch)] (az h):=by
 funext i;rw[ir (G' hk),rY]
theorem MP [Flo]{P:Program}{n m:Nat}{e:bU}{h:List Chunk}(t k g E sz l:Nat)(rows:List (List PV))(ht:dP e t= .osl k g sz 0 l)(hk:az h k= .row E sz g rows)(bG:rows≠[])(hl:l<=rows.length){e':bU}{h':List Chunk}(he:e'=(t,.own k (g+1))::e)(hh:h'=bw h k (.row E sz (g+1) (rows.take l))):cG P n m e h e' h':=by
 intro X _ _ oS a w hr;subst he;subst hh;obtain⟨c,hc⟩:=hr;have hlt:k < h.length:=oc (by rw[hk];simp);have U2:=hc.env t;have bo:=hc.chunk k;have ht':(bs e h).env t= .osl k g sz 0 l:=ht;have hk':(bs e h).heap k= .row E sz g rows:=hk;rw[ht']at U2;rw[hk']at bo;generalize hv:a.tmps.getD t undef=v at U2;cases U2 with
 |osl _ _ _ _ _ b o N cap ec hn To Ph=>
  obtain⟨cur,xs,q1,q2,q3,q4,q5,q6,q7,q8,q9,q10,q11⟩:=eB bo ec bG;have By:0 < rows.length:=Zb.2 bG;obtain rfl:o=0:=by rw[Ph aa];simp
  have df:OwnV w E sz (.slice (some ⟨b,0,none⟩) l (cap - 0)) (rows.take l).length (xs.take (l*sz)):=by
   rw[Xo,Nat.min_eq_left hl];have UX:l*sz<=rows.length*sz:=Yt sz hl;refine .row b l (cap - 0) cur _ aa q1 aa aa q11 (by rw[Xo];omega) ?_;apply Yg;intro j;by_cases hj:j < l*sz
   ·rw[XP hj,XP hj,X6,q4 j aa]
   ·rw[XN (by rw[Xo];omega),XN (by rw[Xo];omega)]
  obtain⟨c',r1,r2⟩:=hc.set_row (w':=w) hk' ec ⟨rfl,rfl,rfl,XA _,fun _ _ _=>rfl⟩ df (.inl (by rw[dr aa,dr aa])) (by rw[ju q5];exact⟨by rw[Xo,Xo,q2.1],fun j d x hj hx=>by
   have HQ:j < l*sz:=by
    have:=(Xm.1 hj).1;rw[Xo]at this;omega
   rw[XP HQ]at hj hx;exact q2.2 j d x hj hx⟩)
   (fun r hr=>q5 r (Yf hr)) (fun r hr=>q6 r (Yf hr))
  have nO:=oe h k (.row E sz (g+1) (rows.take l)) hlt;refine⟨c',r1.size,r1.defers,r1.ext,r1.inv,r1.fresh,?_,?_,?_,fun t'=>?_,?_,r1.lent⟩
  ·exact a4M
  ·exact a4A
  ·exact a4l
  ·exact a3L
  ·exact a4D
theorem JY [Flo]{P:Program}{n m:Nat}{e:bU}{h:List Chunk}(t k g E sz:Nat)(rows:List (List PV))(ht:dP e t= .own k g)(hk:az h k= .row E sz g rows){e':bU}{h':List Chunk}(he:e'=(t,.own k (g+1))::e)(hh:h'=bw h k (.row E sz (g+1) rows)):cG P n m e h e' h':=by
 intro X _ _ oS a w hr;subst he;subst hh;obtain⟨c,hc⟩:=hr;have hlt:k < h.length:=oc (by rw[hk];simp);have U2:=hc.env t;have bo:=hc.chunk k;have ht':(bs e h).env t= .own k g:=ht;have hk':(bs e h).heap k= .row E sz g rows:=hk;rw[ht']at U2;rw[hk']at bo;generalize hv:a.tmps.getD t undef=v at U2;cases U2 with
 |own _ _ _ ec h1=>
  cases bo with
  |row _ _ _ _ u xs hu df hr cK h1' hg=>
   rw[ec]at hu;cases hu;obtain⟨c',r1,r2⟩:=hc.set_row (w':=w) hk' ec ⟨rfl,rfl,rfl,XA _,fun _ _ _=>rfl⟩ df (.inl rfl) hr cK h1';have nO:=oe h k (.row E sz (g+1) rows) hlt;refine⟨c',r1.size,r1.defers,r1.ext,r1.inv,r1.fresh,?_,?_,?_,fun t'=>?_,?_,r1.lent⟩
   ·exact a4M
   ·exact a4A
   ·exact a4l
   ·exact a3L
   ·exact a4D
theorem D1 (p q:PV)(e:bU)(t:Nat):dP ((0,q)::[(0,p)]) t=dP [(0,q)] t:=by
 simp only[dP];by_cases h0:t=0
 ·rw[ah h0,ah h0]
 ·rw[af h0,af h0,af h0]
theorem gC [Flo]{P:Program}{m:Nat}{h:List Chunk}(k g E sz:Nat)(rows:List (List PV))(hk:az h k= .row E sz g rows){e':bU}{h':List Chunk}(hw:cG P 1 m [(0,.own k (g+1))] (bw h k (.row E sz (g+1) rows)) e' h'):cG P 1 m [(0,.own k g)] h e' h':=
 ((JY 0 k g E sz rows rfl hk rfl rfl).trans (ub fun t=> .inr (D1 _ _ [] t).symm)).trans hw
theorem jz [Flo]{P:Program}{m:Nat}{h:List Chunk}(nQ:m<=h.length)(E sz:Nat){e':bU}{h':List Chunk}(hw:cG P 1 m [(0,.own h.length 0)] (h++[.row E sz 0 []]) e' h'):cG P 1 m [(0,.d (.v (.slice none 0 0)))] h e' h':=
 ((du nQ 0 E sz rfl).trans (ub fun t=> .inr (D1 _ _ [] t).symm)).trans hw
theorem aJ [Flo]{P:Program}{n m:Nat}{e:bU}{h:List Chunk}(k:Nat)(hk:k < h.length):cG P n m e h e (bw h k .gone):=by
 intro X _ _ oS a w hr;obtain⟨c,hc⟩:=hr;have hf:=hc.freeze [k];have nO:=oe h k .gone hk;refine⟨_,hf.size,hf.defers,hf.ext,hf.inv,hf.fresh,?_,?_,?_,hf.env,?_,hf.lent⟩
 ·intro b;have:=hf.mu b;simp only[bs,nO,Xl,Xp]at this ⊢;exact this
 ·intro k b;have:=hf.new k b;simp only[bs,nO,Xl,Xp]at this ⊢;exact this
 ·intro k k' b;have:=hf.apart k k' b;simp only[bs,nO,Xl,Xp]at this ⊢;exact this
 ·intro k;have:=hf.chunk k;simp only[bs,nO,Xl,Xp]at this ⊢;exact this
theorem sk [Flo]{P:Program}{f sz:Nat}{pl ql:List PV}{h0 h1:List Chunk}{r:PV}(h:∀(ao:Option Addr) (cap:Nat),MSpec P f (pl++ .d (.v (.slice ao 0 cap))::ql) h0 r h1):MSpec P f (pl++ .d (.sl sz [])::ql) h0 r h1:=by
 have h00:=h none 0;have uJ:∀(d d':D) (n:Nat) (pl:List PV),aw n (pl++ .d d::ql)=aw n (pl++ .d d'::ql):=by
  intro d d' n pl;induction pl with
  |nil=>simp only[X8,aw,ay]
  |cons a pl ih=>simp only[X5,aw,ih]
 refine⟨h00.fn,h00.le,(uJ _ _ _ pl).trans h00.ba,h00.bh,fun X hP hn hm' w c vs hr mA=>?_⟩;have bP:=mA.1;obtain⟨v,hv⟩:∃v,vs[pl.length]? =some v:=⟨_,Xj (by rw[<-bP];simp)⟩;have hd:=mA.2 pl.length (.d (.sl sz [])) v ak hv;have hd:=ck hd;have key:∀ao cap,v= .slice ao 0 cap->bA c w (pl++ .d (.v (.slice ao 0 cap))::ql) vs:=by
  rintro ao cap rfl;refine⟨by simpa using bP,fun j d x hj hx=>?_⟩;rcases Y9 j pl.length with hlt|rfl|hgt
  ·exact mA.2 j d x (by rw[XW hlt]at hj ⊢;exact hj) hx
  ·rw[hv]at hx;cases hx;simp at hj;subst hj;exact .d _ _ (.v _)
  ·refine mA.2 j d x ?_ hx;rw[XI aa]at hj ⊢;obtain⟨i,hi⟩:∃i,j - pl.length=i+1:=⟨j - pl.length - 1,by omega⟩;rw[hi]at hj ⊢;exact hj
 cases hd with
 |nil _ ao cap hm=>exact(h ao cap).run X hP hn hm' w c vs hr (key _ _ rfl)
 |sl _ _ b off cap f hM hb hc hm=>
  exact(h _ cap).run X hP hn hm' w c vs hr (key _ _ rfl)
theorem sn [Flo]{P:Program}{m:Nat}{h:List Chunk}(k g E sz l:Nat)(rows:List (List PV))(hk:az h k= .row E sz g rows)(bG:rows≠[])(hl:l<=rows.length){e':bU}{h':List Chunk}(hw:cG P 1 m [(0,.own k (g+1))] (bw h k (.row E sz (g+1) (rows.take l))) e' h'):cG P 1 m [(0,.osl k g sz 0 l)] h e' h':=
 ((MP 0 k g E sz l rows rfl hk bG hl rfl rfl).trans (ub fun t=>by
  simp only[dP];by_cases h0:t=0
  ·rw[ah h0,ah h0];exact .inr rfl
  ·rw[af h0,af h0];exact .inl rfl)).trans hw
structure Tg.{u}{α:Sort u}(a:α):Type where
 mk::
def qG (p:PV)(A B:Prop)(_:Tg A)(_:Tg B):Prop:=match p with| .d (.v (.bool t))=>(t=true->A)/\(t=false->B)|_=>False
def gK (g:Option Bool)(A B:Prop)(_:Tg A)(_:Tg B):Prop:=match g with|some g=>(g=true->A)/\(g=false->B)|none=>False
def MQ (l:List Oper)(_:Tg l)(sm:List (List Nat × List Nat)):Prop:=(o8 ⟨l⟩ sm.reverse&&pb ⟨l⟩)=true
def QJ (draw:Bool)(l:List Oper)(_:Tg l)(sm:List (List Nat × List Nat))(A:Prop)(_:Tg A):Prop:=match draw with|true=>MQ l ⟨⟩ sm/\A|false=>A
def B5 (ds:List (Option Nat))(e:bU)(g:Option (Nat × Bool)):Option Bool:=
 match g with
 |none=>some true
 |some (j,want)=>match ds[j]? with|some dj=>(BZ dj e).map (·==some want)|none=>none
abbrev KT:=Exit->bU->List Chunk->Prop
def nK (K:KT):bU->List Chunk->Prop:=K .normal
def kG (C:bU->List Chunk->Prop)(K:KT):KT
 | .normal,e,h=>C e h
 |x,e,h=>K x e h
def uc (K:KT)(_:Tg K)(x:Exit)(e:bU)(h:List Chunk):Prop:=K x e h
def PU [Flo](P:Program)(r:SR)(dst:Option Nat)(e:bU)(h:List Chunk)(sm:List (List Nat × List Nat))(R:bU->List Chunk->List (List Nat × List Nat)->Prop)(_:Tg R):Prop:=B0 P r dst e h sm R
section
variable (P:Program)(n m:Nat)(T:Nat->Option TI)(Q:Nat->Option Nat)
def rO [Flo](draw:Bool)(ops:List Oper)(K:KT):(l:List Oper)->Tg (ops,K,l)->List (Option Nat)->bU->List Chunk->List (List Nat × List Nat)->Prop
 |[],_,_,e,h,sm=>QJ draw ops ⟨⟩ sm (uc K ⟨⟩ .normal e h) ⟨⟩
 |o::l,_,ds,e,h,sm=>gK (B5 ds e o.guard) (PU P (PT T Q e h o) o.dst e h sm (fun e' h' sm'=>rO draw ops K l ⟨⟩ (ds++[o.dst]) e' h' sm') ⟨⟩) (rO draw ops K l ⟨⟩ (ds++[o.dst]) (gW e o.dst (.d (.v undef))) h (([],[])::sm)) ⟨⟩ ⟨⟩
def iF:Code->Bool
 | .seq a b=>iF a&&iF b
 | .block _ c=>iF c
 | .cond _ a b=>iF a&&iF b
 | .region _ ops _=>ops.toList.all (DV n)
 | .loop c=>iF c
 | .rangeFunc _ _ a b=>iF a&&iF b
 |_=>true
def D2 [Flo](c:Code)(K:KT)(_:Tg (c,K))(e:bU)(h:List Chunk):Prop:=iF n c=true->uZ P n m (.loop c) K e h
def Wc [Flo](c:Code)(K:KT)(_:Tg (c,K))(e:bU)(h:List Chunk):Prop:=uZ P n m c K e h
def sC [Flo]:(c:Code)->(K:KT)->Tg (c,K)->bU->List Chunk->Prop
 | .seq a b,K,_,e,h=>sC a (xn (sC b K ⟨⟩) K) ⟨⟩ e h
 | .block id c,K,_,e,h=>sC c (ua id (nK K) K) ⟨⟩ e h
 | .skip,K,_,e,h=>uc K ⟨⟩ .normal e h
 | .exit i,K,_,e,h=>uc K ⟨⟩ (.exit i) e h
 | .ret,K,_,e,h=>uc K ⟨⟩ .ret e h
 | .label _,K,_,e,h=>uc K ⟨⟩ .normal e h
 | .cond c a b,K,_,e,h=>qG (dA e c) (sC a K ⟨⟩ e h) (sC b K ⟨⟩ e h) ⟨⟩ ⟨⟩
 | .region _ ⟨ops⟩ draw,K,_,e,h=>m<=h.length/\rO P T Q draw ops K ops ⟨⟩ [] e h []
 | .loop c,K,_,e,h=>D2 P n m c K ⟨⟩ e h
 |c,K,_,e,h=>Wc P n m c K ⟨⟩ e h
end
theorem JZ {ds:List (Option Nat)}{full:List (Option Nat)}(hp:∃x,full=ds++x){e:bU}{o:Oper}{g:Bool}(h:B5 ds e o.guard=some g):t7 full e o=some g:=by
 obtain⟨x,rfl⟩:=hp;unfold B5 at h;unfold t7;cases hg:o.guard with
 |none=>rw[hg]at h;exact h
 |some jw=>
  obtain⟨j,want⟩:=jw;rw[hg]at h;simp only at h ⊢;cases hd:ds[j]? with
  |none=>rw[hd]at h;cases h
  |some dj=>
   rw[hd]at h;have hj:=(Xm.1 hd).1;rw[XJ,XW hj,hd];exact h
theorem kH [Flo]{P:Program}{n:Nat}{T:Nat->Option TI}{Q:Nat->Option Nat}{draw:Bool}{ops:List Oper}{K:KT}:∀(l:List Oper) (pre:List Oper) (e:bU) (h:List Chunk) (sm:List (List Nat × List Nat)),ops=pre++l->l.all (DV n)=true->
 rO P T Q draw ops K l ⟨⟩ (pre.map (·.dst)) e h sm->t8 P n T Q draw ⟨ops⟩ (ops.map (·.dst)) l e h sm (K .normal)
 |[],pre,e,h,sm,_,_,hs=>by
  unfold rO QJ at hs;unfold t8;cases draw with
  |true=>exact⟨fun _=>hs.1,hs.2⟩
  |false=>exact⟨(fun h=>(by cases h)),hs⟩
 |o::l,pre,e,h,sm,js,hb,hs=>by
  simp only[List.all_cons,Xv]at hb;have Pn:ops=(pre++[o])++l:=by rw[js];simp
  have fD:pre.map (·.dst)++[o.dst]=(pre++[o]).map (·.dst):=ak;refine JW hb.1 fun R hR=>?_;unfold rO gK at hs;unfold TZ;rw[fD]at hs;split at hs
  ·rename_i g hg;rw[JZ (full:=ops.map (·.dst)) ⟨(o::l).map (·.dst),by rw[js];simp⟩ hg];cases g with
   |true=>
    have hs:=hs.1 rfl;show B0 _ _ _ _ _ _ _;unfold PU B0 at hs;unfold B0;split at hs
    ·exact hs
    ·obtain⟨a,b,c⟩:=hs;exact⟨a,b,hR _ _ _ (kH l _ _ _ _ Pn hb.2 c)⟩
    ·rcases hs with⟨ds,r,a,b,c,d⟩|⟨ls,args,h0,r,h1,a,b,c,d,e1,f,g⟩|⟨ls,args,h0,r,a,b,c,d,e1,f,g⟩
     ·exact .inl ⟨ds,r,a,b,c,hR _ _ _ (kH l _ _ _ _ Pn hb.2 d)⟩
     ·exact .inr (.inl ⟨ls,args,h0,r,h1,a,b,c,d,e1,f,hR _ _ _ (kH l _ _ _ _ Pn hb.2 g)⟩)
     ·exact .inr (.inr ⟨ls,args,h0,r,a,b,c,d,e1,f,hR _ _ _ (kH l _ _ _ _ Pn hb.2 g)⟩)
   |false=>exact hR _ _ _ (kH l _ _ _ _ Pn hb.2 (hs.2 rfl))
  ·exact hs.elim
theorem gY [Flo]{P:Program}{n m:Nat}{T:Nat->Option TI}{Q:Nat->Option Nat}(bY:TabOK P T Q)(ku:P.follows .mixedOrders=true):∀(c:Code) (K:KT) (e:bU) (h:List Chunk),iF n c=true->sC P n m T Q c K ⟨⟩ e h->uZ P n m c K e h
 | .seq a b,K,e,h,hb,hs=>by
  simp only[iF,Xv]at hb;refine Ic fun C hC=>?_;intro X hX hn oS ac w hr;refine wp_mono (gY bY ku a _ e h hb.1 hs X hX hn oS ac w hr) fun ex a' w' ⟨e',h',hk,hr'⟩=>⟨e',h',?_,hr'⟩;cases ex with
  |normal=>exact hC _ _ (gY bY ku b _ _ _ hb.2 hk)
  |_=>exact hk
 | .block id c,K,e,h,hb,hs=>by
  refine JV fun C hC=>?_;intro X hX hn oS ac w hr;refine wp_mono (gY bY ku c _ e h hb hs X hX hn oS ac w hr) fun ex a' w' ⟨e',h',hk,hr'⟩=>⟨e',h',?_,hr'⟩;cases ex with
  |normal=>exact hC _ _ hk
  |exit i=>
   simp only[ua]at hk ⊢;split
   ·rename_i hi;rw[ah hi]at hk;exact hC _ _ hk
   ·rename_i hi;rw[af hi]at hk;exact hk
  |_=>exact hk
 | .skip,K,e,h,_,hs=>MM hs
 | .exit i,K,e,h,_,hs=>MN hs
 | .ret,K,e,h,_,hs=>QH hs
 | .label _,K,e,h,_,hs=>JX hs
 | .cond c a b,K,e,h,hb,hs=>by
  simp only[iF,Xv]at hb;simp only[sC,qG]at hs;split at hs
  ·rename_i t ht;exact ML ht (fun h0=>gY bY ku a _ _ _ hb.1 (hs.1 h0)) (fun h0=>gY bY ku b _ _ _ hb.2 (hs.2 h0))
  ·exact hs.elim
 | .region id ⟨ops⟩ draw,K,e,h,hb,hs=>by
  intro X hX hn oS a w hr;subst hX;subst hn;subst oS;exact B1 bY ku (K:=K .normal) hs.1 (kH ops [] _ _ _ rfl hb hs.2) hr fun e' h' a' w' hk hr'=>⟨e',h',hk,hr'⟩
 | .loop c,K,e,h,hb,hs=>hs hb
 | .rangeFunc _ _ _ _,K,e,h,_,hs=>hs
 | .scope _,K,e,h,_,hs=>hs
 | .goto _,K,e,h,_,hs=>hs
 | .refuse _,K,e,h,_,hs=>hs
section
variable {P:Program}{n m:Nat}{T:Nat->Option TI}{Q:Nat->Option Nat}
theorem bL [Flo](bY:TabOK P T Q)(ku:P.follows .mixedOrders=true){c:Code}{K:Exit->bU->List Chunk->Prop}{e:bU}{h:List Chunk}(I:Nat->bU->List Chunk->Prop)(mm:Nat)(e1:bU)(h1:List Chunk)(h0:I mm e1 h1)(hw:cG P n m e h e1 h1)
 (hr:∀k e h,I k e h->∀C:bU->List Chunk->Prop,(∀k' e1 h1 e h,k' < k->I k' e1 h1->cG P n m e h e1 h1->C e h)->sC P n m T Q c (kG C K) ⟨⟩ e h):D2 P n m c K ⟨⟩ e h:=
 fun hb=>DZ I mm e1 h1 h0 hw fun k e h hI C hC=>(show kG C K=xn C K from funext fun x=>by cases x<;>rfl) ▸ gY bY ku c _ _ _ hb (hr k e h hI C hC)
theorem so [Flo](bY:TabOK P T Q)(ku:P.follows .mixedOrders=true){c:Code}{K:Exit->bU->List Chunk->Prop}{e:bU}{h:List Chunk}(N:Nat)(I:Nat->Prop)(E:Nat->bU)(H:Nat->List Chunk)(h0:I 0)(hw:cG P n m e h (E 0) (H 0))
 (hr:∀k,k < N->I k->∀C:bU->List Chunk->Prop,(∀e h,I (k+1)->cG P n m e h (E (k+1)) (H (k+1))->C e h)->sC P n m T Q c (kG C K) ⟨⟩ (E k) (H k))
 (he:I N->∀C:bU->List Chunk->Prop,sC P n m T Q c (kG C K) ⟨⟩ (E N) (H N)):D2 P n m c K ⟨⟩ e h:=by
 refine bL bY ku (fun j e h=>∃k,k<=N/\j=N - k/\I k/\e=E k/\h=H k) N (E 0) (H 0) ⟨0,XE _,rfl,h0,rfl,rfl⟩ hw ?_;rintro j e h ⟨k,hk,rfl,hI,rfl,rfl⟩ C hC;rcases XL k N with hlt|hge
 ·exact hr k hlt hI C fun e h hI' hw'=>hC _ _ _ e h aa ⟨k+1,hlt,rfl,hI',rfl,rfl⟩ hw'
 ·obtain rfl:k=N:=aa;exact he hI C
theorem bq [Flo](bY:TabOK P T Q)(ku:P.follows .mixedOrders=true){c:Code}{K:Exit->bU->List Chunk->Prop}{e:bU}{h:List Chunk}{α:Type}(l:List α)(I:Nat->Prop)(E:Nat->bU)(H:Nat->List Chunk)(h0:I 0)(hw:cG P n m e h (E 0) (H 0))
 (hr:∀k x,l[k]? =some x->k < l.length->I k->∀C:bU->List Chunk->Prop,(∀e h,I (k+1)->cG P n m e h (E (k+1)) (H (k+1))->C e h)->sC P n m T Q c (kG C K) ⟨⟩ (E k) (H k))
 (he:I l.length->∀C:bU->List Chunk->Prop,sC P n m T Q c (kG C K) ⟨⟩ (E l.length) (H l.length)):D2 P n m c K ⟨⟩ e h:=
 so bY ku l.length I E H h0 hw (fun k hk hI=>hr k l[k] (Xj hk) hk hI) he
end
section
variable {P:Program}{n m:Nat}{T:Nat->Option TI}{Q:Nat->Option Nat}{A B:Prop}{s:Tg A}{t:Tg B}
theorem a0z:gK (some true) A B s t=A:=by simp[gK]
theorem a0A:gK (some false) A B s t=B:=by simp[gK]
theorem og {b:Bool}(h1:b=true->A)(h2:b=false->B):gK (some b) A B s t:=⟨h1,h2⟩
theorem QK:qG (.d (.v (.bool true))) A B s t=A:=by simp[qG]
theorem QL:qG (.d (.v (.bool false))) A B s t=B:=by simp[qG]
theorem ef {b:Bool}(h1:b=true->A)(h2:b=false->B):qG (.d (.v (.bool b))) A B s t:=⟨h1,h2⟩
theorem Wd (b:Bool):(some b==some true)=b:=by cases b<;>rfl
theorem We (b:Bool):(some b==some false)=!b:=by cases b<;>rfl
theorem a0B {b:Bool}:gK (some (!b)) A B s t=gK (some b) B A t s:=by
 cases b<;>simp[gK]
theorem QM {b:Bool}:qG (.d (.v (.bool (!b)))) A B s t=qG (.d (.v (.bool b))) B A t s:=by
 cases b<;>simp[qG]
theorem T4 (a b:PV):sd (.d (.v (.bool true))) a b= .res a [] [] True:=by
 simp only[sd];split<;>rfl
theorem T5 (a b:PV):sd (.d (.v (.bool false))) a b= .res b [] [] True:=by
 simp only[sd];split<;>rfl
theorem T6 (t p q:Bool):sd (.d (.v (.bool t))) (.d (.v (.bool p))) (.d (.v (.bool q)))= .res (.d (.v (.bool (bif t then p else q)))) [] [] True:=rfl
theorem T7 (l:List Oper)(u:Tg l)(sm:List (List Nat × List Nat)):QJ false l u sm A s=A:=rfl
theorem T8 (l:List Oper)(u:Tg l)(sm:List (List Nat × List Nat)):QJ true l u sm A s=(MQ l u sm/\A):=rfl
theorem jA {l:List Oper}{u:Tg l}{sm:List (List Nat × List Nat)}(h:(o8 ⟨l⟩ sm.reverse&&pb ⟨l⟩)=true):MQ l u sm:=h
theorem QN [Flo]{p:PV}{eff:List (Nat × Chunk)}{touch:List Nat}{side:Prop}{dst:Option Nat}{e:bU}{h:List Chunk}{sm:List (List Nat × List Nat)}{R:bU->List Chunk->List (List Nat × List Nat)->Prop}{u:Tg R}:
 PU P (.res p eff touch side) dst e h sm R u=(side/\(eff.all fun kc=>decide (kc.1<=h.length))=true/\R (gW e dst p) (qX eff h) ((eff.map (·.1),touch)::sm)):=rfl
theorem Wf [Flo]{dst:Option Nat}{e:bU}{h:List Chunk}{sm:List (List Nat × List Nat)}{R:bU->List Chunk->List (List Nat × List Nat)->Prop}{u:Tg R}{g:Nat}{ps:List PV}{ds:List D}{r:D}{tl:List Nat}(hv:V4 (az h) ps=some ds)(hp:ai P g ds r)(ht:TS (az h) ps=tl)(hf:tl=[]\/r.flat=true)(hR:R (gW e dst (.d r)) h (([],tl)::sm)):PU P (.call g ps) dst e h sm R u:=by
 subst ht;exact T0 hv hp hf hR
def MR [Flo](P:Program)(g:Nat)(ds:List D)(tl:List Nat)(dst:Option Nat)(e:bU)(h:List Chunk)(sm:List (List Nat × List Nat))(R:bU->List Chunk->List (List Nat × List Nat)->Prop)(_:Tg R):Prop:=
 ∃r,ai P g ds r/\(tl=[]\/r.flat=true)/\R (gW e dst (.d r)) h (([],tl)::sm)
def MS [Flo](P:Program)(g:Nat)(ds:Option (List D))(tl:List Nat)(dst:Option Nat)(e:bU)(h:List Chunk)(sm:List (List Nat × List Nat))(R:bU->List Chunk->List (List Nat × List Nat)->Prop)(u:Tg R):Prop:=
 match ds with
 |some ds=>MR P g ds tl dst e h sm R u
 |none=>False
theorem jB [Flo]{dst:Option Nat}{e:bU}{h:List Chunk}{sm:List (List Nat × List Nat)}{R:bU->List Chunk->List (List Nat × List Nat)->Prop}{u:Tg R}{g:Nat}{ps:List PV}(hv:MS P g (V4 (az h) ps) (TS (az h) ps) dst e h sm R u):PU P (.call g ps) dst e h sm R u:=by
 unfold MS at hv;split at hv
 ·rename_i ds hd;obtain⟨r,hp,hf,hR⟩:=hv;exact Wf hd hp rfl hf hR
 ·exact hv.elim
theorem eh [Flo]{g:Nat}{ds ds':List D}{tl:List Nat}{dst:Option Nat}{e:bU}{h:List Chunk}{sm:List (List Nat × List Nat)}{R:bU->List Chunk->List (List Nat × List Nat)->Prop}{u:Tg R}{r:D}(hp:ai P g ds' r)(hd:qZ ds ds')(hf:tl=[]\/r.flat=true)(hR:R (gW e dst (.d r)) h (([],tl)::sm)):MR P g ds tl dst e h sm R u:=⟨r,hp.args hd,hf,hR⟩
theorem ei [Flo]{g:Nat}{ds:List D}{tl:List Nat}{dst:Option Nat}{e:bU}{h:List Chunk}{sm:List (List Nat × List Nat)}{R:bU->List Chunk->List (List Nat × List Nat)->Prop}{u:Tg R}{r:D}(hp:ai P g ds r)(hf:tl=[]\/r.flat=true)(hR:R (gW e dst (.d r)) h (([],tl)::sm)):MR P g ds tl dst e h sm R u:=⟨r,hp,hf,hR⟩
theorem AM [Flo]:∀l:List D,qZ l l
 |[]=>trivial
 |d::l=>⟨aO.refl d,AM l⟩
theorem fR [Flo](ls:List Nat){dst:Option Nat}{e:bU}{h:List Chunk}{sm:List (List Nat × List Nat)}{R:bU->List Chunk->List (List Nat × List Nat)->Prop}{u:Tg R}{g:Nat}{ps args:List PV}{h0 h1:List Chunk}{r:PV}(hM:MSpec P g args h0 r h1)(mA:ps=jx (eU ls h.length) args)(hl:ls.length=h0.length)(ml:ls.Nodup)(hlt:∀k∈ls,k < h.length)(jM:bF (az h) (eU ls h.length) 0 h0)
 (hR:R (gW e dst (ren (eU ls h.length) r)) (jf (eU ls h.length) 0 h1 h) ((qY ls h.length h1.length,qY ls h.length h1.length)::sm)):PU P (.call g ps) dst e h sm R u:=T3 ls hM mA hl ml hlt jM hR
theorem Wg [Flo](ls:List Nat){dst:Option Nat}{e:bU}{h:List Chunk}{sm:List (List Nat × List Nat)}{R:bU->List Chunk->List (List Nat × List Nat)->Prop}{u:Tg R}{g:Nat}{ps args:List PV}{h0:List Chunk}{r:PV}(hM:MSpec P g args h0 r h0)(mA:ps=jx (eU ls h.length) args)(hl:ls.length=h0.length)(ml:ls.Nodup)(hlt:∀k∈ls,k < h.length)(jM:bF (az h) (eU ls h.length) 0 h0)
 (hR:R (gW e dst (ren (eU ls h.length) r)) h (([],qY ls h.length h0.length)::sm)):PU P (.call g ps) dst e h sm R u:= .inr (.inr ⟨ls,args,h0,r,hM,mA,hl,ml,hlt,jM,hR⟩)
variable {K K1:KT}{C:bU->List Chunk->Prop}{e:bU}{h:List Chunk}{b:Code}{i id:Nat}
theorem J0 [Flo]{u:Tg (xn (sC P n m T Q b K ⟨⟩) K1)}:uc (xn (sC P n m T Q b K ⟨⟩) K1) u .normal e h=sC P n m T Q b K ⟨⟩ e h:=rfl
theorem J1 {u:Tg (xn C K1)}:uc (xn C K1) u (.exit i) e h=uc K1 ⟨⟩ (.exit i) e h:=rfl
theorem J2 {u:Tg (xn C K1)}:uc (xn C K1) u .ret e h=uc K1 ⟨⟩ .ret e h:=rfl
theorem J3 {u:Tg (kG C K1)}:uc (kG C K1) u .normal e h=C e h:=rfl
theorem J4 {u:Tg (kG C K1)}:uc (kG C K1) u (.exit i) e h=uc K1 ⟨⟩ (.exit i) e h:=rfl
theorem J5 {u:Tg (kG C K1)}:uc (kG C K1) u .ret e h=uc K1 ⟨⟩ .ret e h:=rfl
theorem J6 {u:Tg (ua id (nK K) K1)}:uc (ua id (nK K) K1) u .normal e h=uc K ⟨⟩ .normal e h:=rfl
theorem J7 {u:Tg (ua id (nK K) K1)}:uc (ua id (nK K) K1) u .ret e h=uc K1 ⟨⟩ .ret e h:=rfl
theorem J8 {u:Tg (ua id (nK K) K1)}:uc (ua id (nK K) K1) u (.exit i) e h=if i=id then uc K ⟨⟩ .normal e h else uc K1 ⟨⟩ (.exit i) e h:=rfl
def J9 [Flo](T:Nat->Option TI)(rs:List ResultVar)(r:D)(e:bU)(h:List Chunk):Prop:=
 match qF T e h rs with
 |some ps=>match vw (az h) (xg ps)with
  |some d=>aO d r
  |none=>False
 |none=>False
theorem B6 [Flo]{rs:List ResultVar}{r:D}{x:Exit}(hx:x= .normal\/x= .ret):ni T rs r x e h=J9 T rs r e h:=by
 apply propext;unfold ni J9;constructor
 ·rintro⟨-,ps,d,h1,h2,h3⟩;rw[h1];simp only[h2];exact h3
 ·intro h1;refine⟨hx,?_⟩;split at h1
  ·rename_i ps hp;split at h1
   ·rename_i d hd;exact⟨ps,d,hp,hd,h1⟩
   ·exact h1.elim
  ·exact h1.elim
def MT [Flo](P:Program)(m:Nat)(T:Nat->Option TI)(rs:List ResultVar)(r:PV)(h1:List Chunk)(e:bU)(h:List Chunk):Prop:=
 match qF T e h rs with
 |some ps=>cG P 1 m [(0,xg ps)] h [(0,r)] h1
 |none=>False
theorem If [Flo]{rs:List ResultVar}{r:PV}{h1:List Chunk}{x:Exit}(hx:x= .normal\/x= .ret):zI P m T rs r h1 x e h=MT P m T rs r h1 e h:=by
 apply propext;unfold zI MT;constructor
 ·rintro⟨-,ps,h2,h3⟩;rw[h2];exact h3
 ·intro h2;refine⟨hx,?_⟩;split at h2
  ·rename_i ps hp;exact⟨ps,hp,h2⟩
  ·exact h2.elim
theorem D3 [Flo]{rs:List ResultVar}{r:D}{u:Tg (ni T rs r)}:uc (ni T rs r) u .normal e h=J9 T rs r e h:=B6 (.inl rfl)
theorem D4 [Flo]{rs:List ResultVar}{r:D}{u:Tg (ni T rs r)}:uc (ni T rs r) u .ret e h=J9 T rs r e h:=B6 (.inr rfl)
theorem GD [Flo]{rs:List ResultVar}{r:PV}{h1:List Chunk}{u:Tg (zI P m T rs r h1)}:uc (zI P m T rs r h1) u .normal e h=MT P m T rs r h1 e h:=If (.inl rfl)
theorem GE [Flo]{rs:List ResultVar}{r:PV}{h1:List Chunk}{u:Tg (zI P m T rs r h1)}:uc (zI P m T rs r h1) u .ret e h=MT P m T rs r h1 e h:=If (.inr rfl)
end
def B7 (fn:Func)(nt:Nat)(c:Code)(k:Nat):Bool:=!(fn.name== "runtime.NumGoroutine")&&iF nt c&&decide (k<=nt)
theorem a0C [Flo]{P:Program}{f:Nat}{fn:Func}{c:Code}{T:Nat->Option TI}{Q:Nat->Option Nat}{nt:Nat}{rs:Array ResultVar}(bY:TabOK P T Q)(ku:P.follows .mixedOrders=true)(hf:P.funcs[f]? =some fn)(hb:fn.body=some c)(hn:fn.ntmps=nt)(hr:fn.results=rs){ds:List D}{r:D}(hc:B7 fn nt c ds.length=true)
 (hp:sC P nt 0 T Q c (ni T rs.toList r) ⟨⟩ (nZ (ds.map .d) 0) []):ai P f ds r:=by
 subst hn;subst hr;simp only[B7,Xv,Zq,decide_eq_true_eq]at hc;exact ve bY hf hb (cS hf hc.1.1 hb) hc.2 (gY bY ku _ _ _ _ hc.1.2 hp)
theorem jC [Flo]{P:Program}{f:Nat}{fn:Func}{c:Code}{T:Nat->Option TI}{Q:Nat->Option Nat}{nt:Nat}{rs:Array ResultVar}(bY:TabOK P T Q)(ku:P.follows .mixedOrders=true)(hf:P.funcs[f]? =some fn)(hb:fn.body=some c)(hn:fn.ntmps=nt)(hr:fn.results=rs){args:List PV}{h0 h1:List Chunk}{r:PV}(hc:B7 fn nt c args.length=true)
 (hle:h0.length<=h1.length) (Ae:aw h0.length args=true) (hbh:aL h0.length h0=true)
 (hp:sC P nt h0.length T Q c (zI P h0.length T rs.toList r h1) ⟨⟩ (nZ args 0) h0):MSpec P f args h0 r h1:=by
 subst hn;subst hr;simp only[B7,Xv,Zq,decide_eq_true_eq]at hc;exact DW bY hf hb (cS hf hc.1.1 hb) hc.2 hle Ae hbh (gY bY ku _ _ _ _ hc.1.2 hp)
theorem MU {α:Type}(l:List α):aC l 0 []=l:=by simp[aC]
theorem MV {α:Type}(a x:α)(l xs:List α):aC (a::l) 0 (x::xs)=x::aC l 0 xs:=by simp[aC]
theorem QO [Flo]{α:Type}(a:α)(n:Nat)(l xs:List α):aC (a::l) (n+1) xs=a::aC l n xs:=by simp only[aC,ZF,X5,Nat.add_right_comm n 1,List.drop_succ_cons]
attribute [go_sem] nZ
attribute [go_sem] a0z a0A QK QL T7 T8 QN J0 J1 J2 J3 J4 J5 J6 J7 J8 D3 D4 GD GE J9 MT qF Ib xg vw br cI dk wn eL nV T4 T5 T6 MS V4 TS tc j6 cW zC BS nW Mp Wd We a0B QM B5 sC rO
attribute [go_sem] V5 V6 V7 V8 V9 Wa PT dA dP gW qX bw az V3 Mu Mw Mv BK wW DM wX wY pk AH tX wZ w7 Mx DO DP My Mz w9 xa H6 H7 w8 pm sf xb xc tY Gn DQ nj vU wM cF PV.one D.one Value.oneCell' wN qB qC MU MV QO BZ tO Mf VF DN Qs lm jf eU ren jx kE mr qY iu aH aI Gr wV Mq IntKind.bits
attribute [go_sem] cond_true cond_false Xl Xp XC XX List.all_cons List.all_nil ZF p' List.drop_succ_cons List.drop_zero List.take_nil List.drop_nil X5 X8 Yv X3 List.reverse_cons List.reverse_nil List.getElem?_cons_zero Yw List.getElem?_nil Zc Xr Yb Zf YD Option.getD_none Y5 Option.bind_none Xw XG decide_true decide_false Yx Yp Bool.and_false Bool.false_and Yq Z7 Bool.not_false Bool.true_eq_false Yz beq_self_eq_true ne_eq not_true_eq_false not_false_eq_true and_true true_and and_self or_self or_false false_or or_true true_or eq_self forall_const false_implies implies_true Int.toNat_natCast Int.natCast_nonneg Nat.lt_irrefl XA Xs XV XU.injEq Prod.mk.injEq Yy XE Nat.zero_lt_succ Nat.lt_add_one List.getD_cons_zero List.getD_cons_succ List.getD_nil List.range_succ List.range_zero YS XT X2
theorem a4w {p:Prop}(h:p:=by
 induction a with
 |nil=>rfl
 |cons x a ih=>simp only[X5,XC,bw,ih]):p:=h
section
mutual
theorem MW:∀p:PV,ren (fun j=>j) p=p
 | .d x=>rfl
 | .any=>rfl
 | .ptr k off=>rfl
 | .own k g=>rfl
 | .rp k g sz i j=>rfl
 | .osl k g sz a n=>rfl
 | .clo g caps=>by simp only[ren,oh caps]
 | .agg l=>by simp only[ren,oh l]
 | .tup l=>by simp only[ren,oh l]
 | .mref k=>rfl
theorem oh:∀l:List PV,jx (fun j=>j) l=l
 |[]=>rfl
 |p::l=>by simp only[jx,MW p,oh l]
end
theorem Ig:∀l:List (List PV),kE (fun j=>j) l=l
 |[]=>rfl
 |p::l=>by simp only[kE,oh p,Ig l]
theorem B8 (c:Chunk):mr (fun j=>j) c=c:=by cases c<;>simp only[mr,oh,Ig]
theorem Ka (n:Nat):eU (X4 n) n=fun j=>j:=by
 funext j;rcases XL j n with h|h
 ·have:=nX (ls:=X4 n) (nk:=n) (j:=j) (by simpa using h);rw[ZZ h]at this;exact(XU.inj this).symm
 ·have:=ll (X4 n) n (j - n);rw[List.length_range]at this;rw[show n+(j - n)=j by omega]at this;exact this
theorem np (a:List Chunk)(c d:Chunk)(b:List Chunk):bw (a++c::b) a.length d=a++d::b:=a4w
@[go_sem] theorem lF (a:List Chunk)(d:Chunk):bw a a.length d=a++[d]:=a4w
theorem xt:∀(l pre rest:List Chunk),rest.length<=l.length->jf (fun j=>j) pre.length l (pre++rest)=pre++l
 |[],pre,rest,h=>by
  have:rest=[]:=X9 (by simpa using h);subst this;simp[jf]
 |c::l,pre,[],h=>by
  simp only[jf,Yv,B8,lF];have:=xt l (pre++[c]) [] ak;simpa using this
 |c::l,pre,r::rest,h=>by
  simp only[jf,B8,np];have:=xt l (pre++[c]) rest (by simpa using h);simpa using this
theorem AN:∀(l pre:List Chunk),bF (az (pre++l)) (fun j=>j) pre.length l
 |[],_=>trivial
 |c::l,pre=>by
  refine⟨?_,?_⟩
  ·rw[B8];induction pre with
   |nil=>rfl
   |cons a pre ih=>exact ih
  ·have:=AN l (pre++[c]);simpa using this
section
variable {P:Program}{n m:Nat}{T:Nat->Option TI}{Q:Nat->Option Nat}
theorem MX [Flo]{dst:Option Nat}{e:bU}{h:List Chunk}{sm:List (List Nat × List Nat)}{R:bU->List Chunk->List (List Nat × List Nat)->Prop}{u:Tg R}{g:Nat}{ps:List PV}{h1:List Chunk}{r:PV}(hM:MSpec P g ps h r h1)
 (hR:R (gW e dst r) h1 ((X4 h1.length,X4 h1.length)::sm)):PU P (.call g ps) dst e h sm R u:=by
 have hid:=Ka h.length;have hle:=hM.le;refine fR (X4 h.length) hM (by rw[hid,oh]) ak List.nodup_range (fun k hk=>by simpa using hk) (by rw[hid];exact AN h []) ?_;have hh:jf (fun j=>j) 0 h1 h=h1:=xt h1 [] h hle;have hm:qY (X4 h.length) h.length h1.length=X4 h1.length:=by
  unfold qY;rw[hid];simp
 rw[hid,MW,hh,hm];exact hR
end
theorem GF (l:List (List D))(n:Nat):(ab l).take n=ab (l.take n):=by simp[ab]
theorem Kb {α:Type}(l:List α)(i j k:Nat)(z:α)(hi:i < l.length)(hj:j=i+1)(hk:k=i+(l.length - j)):(aC (aC l i ((l.drop j).take (l.length - j))) k [z]).take k=l.eraseIdx i:=by
 subst hj;subst hk;have h1:(l.drop (i+1)).take (l.length - (i+1))=l.drop (i+1):=XM (by rw[XO];omega);rw[h1,YG];have h2:(aC l i (l.drop (i+1))).take (i+(l.length - (i+1)))=l.take i++l.drop (i+1):=by
  unfold aC;rw[Ym aN,XM aN]
 rw[<-h2];have h3:i+(l.length - (i+1))<=(aC l i (l.drop (i+1))).length:=by rw[bt (by rw[XO];omega)];omega
 generalize aC l i (l.drop (i+1))=l' at h3 ⊢;unfold aC;rw[X3,Ym (by rw[Xo];omega),List.take_take,Zt]
theorem gD {α β:Type}(f:α->β)(l:List α)(i:Nat):(l.eraseIdx i).map f=(l.map f).eraseIdx i:=by
 rw[YG,YG,Xn,ZK,List.map_drop]
theorem mE {α:Type}(l:List α)(i j n:Nat)(hi:i < l.length)(hj:j=i+1)(hn:n=l.length):(aC l i ((l.drop j).take (n - j))).length=l.length:=by
 rw[bt];rw[Xo,XO];omega
theorem po [Flo]{P:Program}{E sz g i j n:Nat}{L:List (List D)}{z:List PV}(hi:i < L.length)(hj:j=i+1)(hn:n=L.length):
 cG P 1 1 [(0,.osl 0 g sz 0 (i+(n - j)))] [.row E sz g (aC (aC (ab L) i (((ab L).drop j).take (n - j))) (i+(n - j)) (XS 1 z))] [(0,.own 0 (g+1))] [.row E sz (g+1) (ab (L.eraseIdx i))]:=by
 have hl:(ab L).length=L.length:=aH L;have h1:=mE (ab L) i j n aa hj aa;have h2:(aC (aC (ab L) i (((ab L).drop j).take (n - j))) (i+(n - j)) (XS 1 z)).length=L.length:=by rw[bt aN];omega
 refine sn 0 g E sz _ _ rfl (fun h=>by rw[h]at h2;simp at h2;omega) aa (aW rfl ?_);have:=Kb (ab L) i j (i+(n - j)) z aa hj aa;simp only[bw,List.replicate_one];rw[hn]at this ⊢;rw[hl]at this;rw[this];unfold ab;rw[gD]
def cv {α:Type}(p:α->Bool)(l:List α)(j:Nat):List α:=(l.take j).filter fun x=>!p x
def iM {α:Type}(p:α->Bool)(l:List α)(j:Nat):List α:=cv p l j++l.drop (cv p l j).length
theorem wt {α:Type}(p:α->Bool)(l:List α)(j:Nat):(cv p l j).length<=j/\(cv p l j).length<=l.length:=by
 have h1:=Y8 (fun x=>!p x) (l.take j);rw[Xo]at h1;unfold cv;omega
theorem Ih {α:Type}(p:α->Bool)(l:List α)(j:Nat):(iM p l j).length=l.length:=by
 have:=wt p l j;unfold iM;rw[XV,XO];omega
theorem Ii {α:Type}(p:α->Bool)(l:List α)(j i:Nat)(h:(cv p l j).length<=i):(iM p l j)[i]? =l[i]? :=by
 unfold iM;rw[XI h,Yk];congr 1;omega
theorem ud {α:Type}{p:α->Bool}{l:List α}{j:Nat}{x:α}(hx:l[j]? =some x):cv p l (j+1)=cv p l j++if p x then []else [x]:=by
 unfold cv;rw[List.take_add_one,hx,YT];cases h:p x<;>simp[h]
theorem S5 {α:Type}{p:α->Bool}{l:List α}{j:Nat}{x:α}(hx:l[j]? =some x)(hp:p x=true):cv p l (j+1)=cv p l j/\iM p l (j+1)=iM p l j:=by
 have h1:cv p l (j+1)=cv p l j:=by rw[ud hx,hp];simp
 exact⟨h1,by unfold iM;rw[h1]⟩
theorem S6 {α:Type}{p:α->Bool}{l:List α}{j:Nat}{x:α}(hx:l[j]? =some x)(hp:p x=false):(cv p l (j+1)).length=(cv p l j).length+1/\iM p l (j+1)=(iM p l j).set (cv p l j).length x:=by
 have h1:cv p l (j+1)=cv p l j++[x]:=by rw[ud hx,hp];simp
 have hj:=(Xm.1 hx).1;have hk:=wt p l j;refine⟨by rw[h1];simp,?_⟩;unfold iM;rw[h1];obtain⟨y,hy⟩:∃y,l[(cv p l j).length]? =some y:=⟨_,Xj aa⟩;have hd:l.drop (cv p l j).length=y::l.drop ((cv p l j).length+1):=by
  obtain⟨hlt,rfl⟩:=Xm.1 hy;exact YN hlt
 rw[hd,Yu _ _ (XA _),YE,XT];simp
theorem AO {α:Type}{p:α->Bool}{l:List α}{i:Nat}(h:l.findIdx? p=some i):i < l.length/\(cv p l (i+1)).length=i/\iM p l (i+1)=l:=by
 obtain⟨hi,hp,bQ⟩:=XK.1 h;have h1:cv p l (i+1)=l.take i:=by
  rw[ud (Xj hi),hp];simp only[if_true,Yv];unfold cv;refine YY.2 fun x hx=>?_;obtain⟨q,hq,rfl⟩:=XZ.1 hx;rw[Xo]at hq;have:=bQ q aa;simp only[ZD];simpa using this
 have h2:(cv p l (i+1)).length=i:=by rw[h1,Xo];omega
 refine⟨hi,h2,?_⟩;unfold iM;rw[h2,h1,YV]
theorem QP {α:Type}(p:α->Bool)(l:List α):cv p l l.length=l.filter fun x=>!p x:=by
 unfold cv;(try rw[Xq])
theorem bN {α:Type}(enc:α->List D)(l:List α)(i:Nat)(x:α):(ab (l.map enc)).set i ((enc x).map .d)=ab ((l.set i x).map enc):=by
 simp only[ab,ZU]
structure HpOK (h:List Chunk)(k:Nat):Prop where
 a:∀c,az (bw h k c) k=c
 b:∀c,(bw h k c).length=h.length
 c:∀c b,az (bw h k c++[b]) k=c
 d:∀c b,az (bw h k c++[b]) h.length=b
 e:∀c b,bw (bw h k c) h.length b=bw h k c++[b]
 f:∀c b c',bw (bw h k c++[b]) k c'=bw h k c'++[b]
 g:∀c b b',bw (bw h k c++[b]) h.length b'=bw h k c++[b']
 i:∀c c',bw (bw h k c) k c'=bw h k c'
theorem ue:∀(h:List Chunk) (k:Nat) (c c':Chunk),k < h.length->bw (bw h k c) k c'=bw h k c'
 |a::l,0,c,c',_=>rfl
 |a::l,k+1,c,c',h=>by simp only[bw,ue l k c c' (by simpa using h)]
theorem AP:∀(h b:List Chunk) (k:Nat) (c:Chunk),k < h.length->bw (h++b) k c=bw h k c++b
 |a::l,b,0,c,_=>rfl
 |a::l,b,k+1,c,h=>by simp only[X5,bw,AP l b k c (by simpa using h)]
theorem T9 {h:List Chunk}{k:Nat}(hk:k < h.length):HpOK h k:=by
 have hb:∀c,(bw h k c).length=h.length:=fun c=>sj hk;have ha:∀c,az (bw h k c) k=c:=fun c=>by rw[ir (G' hk),ah rfl]
 refine⟨ha,hb,fun c b=>by rw[qb _ _ _ (by rw[hb];exact hk),ha],fun c b=>by rw[kF,hb,ah rfl],fun c b=>?_,fun c b c'=>?_,fun c b b'=>?_,fun c c'=>ue h k c c' hk⟩
 ·have:=lF (bw h k c) b;rwa [hb]at this
 ·rw[AP _ _ _ _ (by rw[hb];exact hk),ue h k c c' hk]
 ·have:=np (bw h k c) b b' [];rwa [hb]at this
theorem uf:∀(h:List Chunk) (k:Nat) (c:Chunk),az h k=c->k < h.length->bw h k c=h
 |a::l,0,c,e,_=>by subst e;rfl
 |a::l,k+1,c,e,h=>by simp only[bw,uf l k c e (by simpa using h)]
theorem gZ (n:Nat):∀(h:List Chunk) (k:Nat) (c:Chunk),aL n h=true->aQ n c=true->k < h.length->aL n (bw h k c)=true
 |a::l,0,c,h1,h2,_=>by simp only[aL,Xv]at h1;simp only[bw,aL,h1.2,h2,Yq]
 |a::l,k+1,c,h1,h2,h3=>by
  simp only[aL,Xv]at h1;simp only[bw,aL,h1.1,gZ n l k c h1.2 h2 (by simpa using h3),Yq]
theorem D5 {α:Type}(l xs:List α)(n:Nat)(h:n<=l.length):(aC l n xs).take n=l.take n:=by
 unfold aC;rw[X3,Ym (by rw[Xo];omega),List.take_take,Zt]
theorem AQ {α:Type}(p:α->Bool)(l:List α):(iM p l l.length).take (cv p l l.length).length=l.filter fun x=>!p x:=by
 unfold iM;rw[Ym (XA _),Xq,QP]
theorem AR [Flo]{P:Program}{E sz g k K n:Nat}{h:List Chunk}{L:List (List D)}{z:List PV}(hk:k < h.length)(hK:K<=L.length)(h0:L≠[])(hn:n=L.length):
 cG P 1 h.length [(0,.osl k g sz 0 (K - 0))] (bw h k (.row E sz g (aC (ab L) K (XS (n - K) z)))) [(0,.own k (g+1))] (bw h k (.row E sz (g+1) (ab (L.take K)))):=by
 obtain⟨ga,gb,gc,gd,ge,gf,gg,gi⟩:=T9 hk;have hl:(ab L).length=L.length:=aH L;have hs:(aC (ab L) K (XS (n - K) z)).length=L.length:=by rw[bt aN];exact hl
 have hp:0 < L.length:=Zb.2 h0;refine sn k g E sz _ _ (ga _) (fun e=>by rw[e]at hs;simp at hs;omega) aa (aW rfl ?_);rw[gi,Zs,D5 _ _ _ aa,GF]
theorem aD (k g:Nat)(d:D):∀(l m:List (List PV)),d7 k g d (l++m)=d7 k g d l++d7 k g d m
 |[],m=>rfl
 |r::l,m=>by simp only[X5,d7,aD k g d l m]
def ple [Flo](p q:PV):Prop:=p=q\/∃d d',p= .d d/\q= .d d'/\aO d d'
def vW [Flo]:List PV->List PV->Prop
 |[],[]=>True
 |p::l,q::m=>ple p q/\vW l m
 |_,_=>False
theorem sq [Flo]{c:Cx}{w:World}:∀{l m:List PV}{vs:List Value},vW l m->bA c w l vs->bA c w m vs
 |[],[],vs,_,h=>h
 |[],_::_,vs,h,_=>h.elim
 |_::_,[],vs,h,_=>h.elim
 |p::l,q::m,[],_,h=>by have:=h.1;simp at this
 |p::l,q::m,v::vs,⟨h1,h2⟩,h=>by
  have h3:=sq (vs:=vs) h2 ⟨by simpa using h.1,fun j d x hj hx=>h.2 (j+1) d x (by simpa using hj) (by simpa using hx)⟩;refine⟨by simpa using h3.1,fun j d x hj hx=>?_⟩;cases j with
  |zero=>
   simp at hj hx;subst hj;subst hx;have h0:=h.2 0 p v rfl rfl;rcases h1 with rfl|⟨d,d',rfl,rfl,hle⟩
   ·exact h0
   ·exact .d _ _ (hle _ _ _ (ck h0))
  |succ j=>exact h3.2 j d x (by simpa using hj) (by simpa using hx)
theorem MSpec.lep [Flo]{P:Program}{f:Nat}{args args':List PV}{h0 h1:List Chunk}{r:PV}(h:MSpec P f args h0 r h1)(hp:vW args' args)(hb:aw h0.length args'=true):MSpec P f args' h0 r h1:=
 ⟨h.fn,h.le,hb,h.bh,fun X hP hn hm w c vs hr mA=>h.run X hP hn hm w c vs hr (sq hp mA)⟩
theorem B9 [Flo]{P:Program}{f:Nat}{fn:Func}{c:Code}{T:Nat->Option TI}{Q:Nat->Option Nat}{nt:Nat}{rs:Array ResultVar}(bY:TabOK P T Q)(ku:P.follows .mixedOrders=true)(hf:P.funcs[f]? =some fn)(hb:fn.body=some c)(hn:fn.ntmps=nt)(hr:fn.results=rs){args:List PV}{h0 h1:List Chunk}{r:PV}(hc:B7 fn nt c args.length=true)
 (hle:h0.length<=h1.length) (Ae:aw h0.length args=true) (hbh:aL h0.length h0=true)
 (hp:sC P nt h0.length T Q c (zI P h0.length T rs.toList r h1) ⟨⟩ (nZ args 0) h0):MSpec P f args h0 r h1:=jC bY ku hf hb hn hr hc hle Ae hbh hp
end
structure Hd (Q:Prop):Prop where
 out:Q
structure Or1 (Q:Prop):Prop where
 mk::
structure Ln [Flo](ls:List Nat)(P:Program)(g:Nat)(args:List PV)(h0:List Chunk)(r:PV)(h1:List Chunk):Prop where
 out:MSpec P g args h0 r h1
structure Lr [Flo](ls:List Nat)(P:Program)(g:Nat)(args:List PV)(h0:List Chunk)(r:PV):Prop where
 out:MSpec P g args h0 r h0
theorem Ca [Flo]{P:Program}{ls:List Nat}{dst:Option Nat}{e:bU}{h:List Chunk}{sm:List (List Nat × List Nat)}{R:bU->List Chunk->List (List Nat × List Nat)->Prop}{u:Tg R}{g:Nat}{ps args:List PV}{h0:List Chunk}{r:PV}(hL:Lr ls P g args h0 r)(mA:ps=jx (eU ls h.length) args)(hl:ls.length=h0.length)(ml:ls.Nodup)(hlt:∀k∈ls,k < h.length)(jM:bF (az h) (eU ls h.length) 0 h0)
 (hR:R (gW e dst (ren (eU ls h.length) r)) h (([],qY ls h.length h0.length)::sm)):PU P (.call g ps) dst e h sm R u:=Wg ls hL.out mA hl ml hlt jM hR
theorem AS [Flo]{P:Program}{ls:List Nat}{dst:Option Nat}{e:bU}{h:List Chunk}{sm:List (List Nat × List Nat)}{R:bU->List Chunk->List (List Nat × List Nat)->Prop}{u:Tg R}{g:Nat}{ps args:List PV}{h0 h1:List Chunk}{r:PV}(hL:Ln ls P g args h0 r h1)(mA:ps=jx (eU ls h.length) args)(hl:ls.length=h0.length)(ml:ls.Nodup)(hlt:∀k∈ls,k < h.length)(jM:bF (az h) (eU ls h.length) 0 h0)
 (hR:R (gW e dst (ren (eU ls h.length) r)) (jf (eU ls h.length) 0 h1 h) ((qY ls h.length h1.length,qY ls h.length h1.length)::sm)):PU P (.call g ps) dst e h sm R u:=fR ls hL.out mA hl ml hlt jM hR
theorem bl {A:Prop}(h:A:=by first|rfl|simp only[aL,eD,aQ,aw,cB,ay,bu,aF,XC,XX,Xz,ZV,decide_true,Yq,Yx]):A:=h
theorem se {e e':bU}(h:BU e e':=by repeat' (first|exact trivial|(refine⟨rfl,?_⟩))):BU e e':=h
theorem wi (k:Nat)(h:k < 9223372036854775807):IntKind.i64.wrap ((k:Int)+1)=((k+1:Nat):Int):=by rw[IntKind.wrap_i64];omega
theorem dg [Flo]{A:Prop}(h:A:=by repeat(first|exact aO.refl _|exact aO.nil _|(refine aO.tup ?_)|(refine aO.agg ?_ rfl)|exact trivial|(refine And.intro ?_ ?_))):A:=h
theorem dz [Flo]{a b:D}(h:aO a b:=by repeat(first|exact aO.refl _|exact aO.nil _|(refine aO.tup ?_)|(refine aO.agg ?_ rfl)|exact trivial|(refine And.intro ?_ ?_))):aO a b:=h
theorem wf [Flo]{P:Program}{n m:Nat}{e e':bU}{h h' x:List Chunk}(hm:m<=h'.length:=by simp)(hh:h=h'++x:=by rfl)(he:BU e e':=by repeat' (first|exact trivial|(refine⟨rfl,?_⟩)))
 (hb:eD h'.length e'=true:=by first|rfl|simp only[aL,eD,aQ,aw,cB,ay,bu,aF,XC,XX,Xz,ZV,decide_true,Yq,Yx]) (hbh:aL h'.length h'=true:=by first|rfl|simp only[aL,eD,aQ,aw,cB,ay,bu,aF,XC,XX,Xz,ZV,decide_true,Yq,Yx]):cG P n m e h e' h':=ey x hm hh he hb hbh
theorem aY [Flo]{P:Prop}(h:P:=by
 first|((repeat' (first|(with_reducible refine And.intro ?_ ?_)|(with_reducible refine og (fun jN=>?_) (fun jN=>?_))|(with_reducible refine ef (fun jN=>?_) (fun jN=>?_))|(with_reducible refine jA aK)|simp -dsimp only[go_sem,seval, *,undef,Xq,Zs,bne_self_eq_false,beq_self_eq_true,YI,Za,Zz]|((with_reducible refine jB ?_);simp -dsimp only[go_sem,seval, *,undef,Xq,Zs,bne_self_eq_false,beq_self_eq_true,YI,Za,Zz];first|refine ei gR mR ?_|(refine eh gR ?_ ?_ ?_;(solve|(repeat(first|exact aO.refl _|exact aO.nil _|(refine aO.tup ?_)|(refine aO.agg ?_ rfl)|exact trivial|(refine And.intro ?_ ?_))));(solve|exact .inl rfl|exact .inr rfl)))|(refine AS gR ?_ ?_ ?_ ?_ ?_ ?_;(solve|rfl|simp only[go_sem,seval]);(solve|rfl);(solve|decide);(solve|simp);(solve|simp only[go_sem,seval,bF]))|(refine Ca gR ?_ ?_ ?_ ?_ ?_ ?_;(solve|rfl|simp only[go_sem,seval]);(solve|rfl);(solve|decide);(solve|simp);(solve|simp only[go_sem,seval,bF]))|omega|exact decide_eq_true aa|exact aO.refl _));done)|fail):P:=h
structure Lm [Flo](ls:List Nat)(P:Program)(g:Nat)(args:List PV)(h0:List Chunk)(r:PV)(h1:List Chunk):Prop where
 n:Ln ls P g args h0 r h1
structure Lo [Flo](ls:List Nat)(P:Program)(g:Nat)(args:List PV)(h0:List Chunk)(r:PV)(h1:List Chunk):Prop where
 n:Ln ls P g args h0 r h1
theorem aq [Flo]{Q1 P:Prop}(q1:Q1)(h:Hd Q1->P:=by
 intro q1;first|((repeat' (first|(with_reducible refine And.intro ?_ ?_)|(with_reducible refine og (fun jN=>?_) (fun jN=>?_))|(with_reducible refine ef (fun jN=>?_) (fun jN=>?_))|(with_reducible refine jA aK)|simp -dsimp only[go_sem,seval, *,undef,Xq,Zs,bne_self_eq_false,beq_self_eq_true,YI,Za,Zz]|((with_reducible refine jB ?_);simp -dsimp only[go_sem,seval, *,undef,Xq,Zs,bne_self_eq_false,beq_self_eq_true,YI,Za,Zz];first|refine ei gR mR ?_|(refine eh gR ?_ ?_ ?_;(solve|(repeat(first|exact aO.refl _|exact aO.nil _|(refine aO.tup ?_)|(refine aO.agg ?_ rfl)|exact trivial|(refine And.intro ?_ ?_))));(solve|exact .inl rfl|exact .inr rfl)))|(refine AS gR ?_ ?_ ?_ ?_ ?_ ?_;(solve|rfl|simp only[go_sem,seval]);(solve|rfl);(solve|decide);(solve|simp);(solve|simp only[go_sem,seval,bF]))|(refine Ca gR ?_ ?_ ?_ ?_ ?_ ?_;(solve|rfl|simp only[go_sem,seval]);(solve|rfl);(solve|decide);(solve|simp);(solve|simp only[go_sem,seval,bF]))|omega|exact decide_eq_true aa|exact aO.refl _));all_goals((repeat revert jN);first|(with_reducible exact q1.out)))|fail):P:=h ⟨q1⟩
theorem zk [Flo]{Q1 Q2 P:Prop}(q1:Q1)(q2:Q2)(h:Hd Q1->Hd Q2->P:=by
 intro q1 q2;first|((repeat' (first|(with_reducible refine And.intro ?_ ?_)|(with_reducible refine og (fun jN=>?_) (fun jN=>?_))|(with_reducible refine ef (fun jN=>?_) (fun jN=>?_))|(with_reducible refine jA aK)|simp -dsimp only[go_sem,seval, *,undef,Xq,Zs,bne_self_eq_false,beq_self_eq_true,YI,Za,Zz]|((with_reducible refine jB ?_);simp -dsimp only[go_sem,seval, *,undef,Xq,Zs,bne_self_eq_false,beq_self_eq_true,YI,Za,Zz];first|refine ei gR mR ?_|(refine eh gR ?_ ?_ ?_;(solve|(repeat(first|exact aO.refl _|exact aO.nil _|(refine aO.tup ?_)|(refine aO.agg ?_ rfl)|exact trivial|(refine And.intro ?_ ?_))));(solve|exact .inl rfl|exact .inr rfl)))|(refine AS gR ?_ ?_ ?_ ?_ ?_ ?_;(solve|rfl|simp only[go_sem,seval]);(solve|rfl);(solve|decide);(solve|simp);(solve|simp only[go_sem,seval,bF]))|(refine Ca gR ?_ ?_ ?_ ?_ ?_ ?_;(solve|rfl|simp only[go_sem,seval]);(solve|rfl);(solve|decide);(solve|simp);(solve|simp only[go_sem,seval,bF]))|omega|exact decide_eq_true aa|exact aO.refl _));all_goals((repeat revert jN);first|(with_reducible exact q1.out)|(with_reducible exact q2.out)))|fail)
 (e1:Or1 Q1:=by first|(with_reducible exact(Or1.mk:Or1 True))|exact Or1.mk) (e2:Or1 Q2:=by first|(with_reducible exact(Or1.mk:Or1 True))|exact Or1.mk):P:=h ⟨q1⟩ ⟨q2⟩
theorem fl [Flo]{Q1 Q2 Q3 Q4 Q5 Q6 Q7 Q8 P:Prop}(q1:Q1)(q2:Q2)(q3:Q3)(q4:Q4)(q5:Q5)(q6:Q6)(q7:Q7)(q8:Q8)(h:Hd Q1->Hd Q2->Hd Q3->Hd Q4->Hd Q5->Hd Q6->Hd Q7->Hd Q8->P:=by
 intro q1 q2 q3 q4 q5 q6 q7 q8;first|((repeat' (first|(with_reducible refine And.intro ?_ ?_)|(with_reducible refine og (fun jN=>?_) (fun jN=>?_))|(with_reducible refine ef (fun jN=>?_) (fun jN=>?_))|(with_reducible refine jA aK)|simp -dsimp only[go_sem,seval, *,undef,Xq,Zs,bne_self_eq_false,beq_self_eq_true,YI,Za,Zz]|((with_reducible refine jB ?_);simp -dsimp only[go_sem,seval, *,undef,Xq,Zs,bne_self_eq_false,beq_self_eq_true,YI,Za,Zz];first|refine ei gR mR ?_|(refine eh gR ?_ ?_ ?_;(solve|(repeat(first|exact aO.refl _|exact aO.nil _|(refine aO.tup ?_)|(refine aO.agg ?_ rfl)|exact trivial|(refine And.intro ?_ ?_))));(solve|exact .inl rfl|exact .inr rfl)))|(refine AS gR ?_ ?_ ?_ ?_ ?_ ?_;(solve|rfl|simp only[go_sem,seval]);(solve|rfl);(solve|decide);(solve|simp);(solve|simp only[go_sem,seval,bF]))|(refine AS (Lm.n gR) ?_ ?_ ?_ ?_ ?_ ?_;(solve|rfl|simp only[go_sem,seval]);(solve|rfl);(solve|decide);(solve|simp);(solve|simp only[go_sem,seval,bF]))|(refine AS (Lo.n gR) ?_ ?_ ?_ ?_ ?_ ?_;(solve|rfl|simp only[go_sem,seval]);(solve|rfl);(solve|decide);(solve|simp);(solve|simp only[go_sem,seval,bF]))|(refine Ca gR ?_ ?_ ?_ ?_ ?_ ?_;(solve|rfl|simp only[go_sem,seval]);(solve|rfl);(solve|decide);(solve|simp);(solve|simp only[go_sem,seval,bF]))|omega|exact decide_eq_true aa|exact aO.refl _));all_goals((repeat revert jN);first|(with_reducible exact q1.out)|(with_reducible exact q2.out)|(with_reducible exact q3.out)|(with_reducible exact q4.out)|(with_reducible exact q5.out)|(with_reducible exact q6.out)|(with_reducible exact q7.out)|(with_reducible exact q8.out)))|fail)
 (e1:Or1 Q1:=by first|(with_reducible exact(Or1.mk:Or1 True))|exact Or1.mk) (e2:Or1 Q2:=by first|(with_reducible exact(Or1.mk:Or1 True))|exact Or1.mk) (e3:Or1 Q3:=by first|(with_reducible exact(Or1.mk:Or1 True))|exact Or1.mk) (e4:Or1 Q4:=by first|(with_reducible exact(Or1.mk:Or1 True))|exact Or1.mk) (e5:Or1 Q5:=by first|(with_reducible exact(Or1.mk:Or1 True))|exact Or1.mk) (e6:Or1 Q6:=by first|(with_reducible exact(Or1.mk:Or1 True))|exact Or1.mk) (e7:Or1 Q7:=by first|(with_reducible exact(Or1.mk:Or1 True))|exact Or1.mk) (e8:Or1 Q8:=by first|(with_reducible exact(Or1.mk:Or1 True))|exact Or1.mk):P:=h ⟨q1⟩ ⟨q2⟩ ⟨q3⟩ ⟨q4⟩ ⟨q5⟩ ⟨q6⟩ ⟨q7⟩ ⟨q8⟩
theorem D6 {s:Bool}{ents:List (List Int × Int)}{seen:List Nat}(h:(leftOf (bx s ents 0).toArray seen.toArray).size=0){i:Nat}(hi:i < ents.length):i∈seen:=by
 have hg:=pi s ents 0 i;rw[Xj hi]at hg;have hm:=Xk hg;refine Classical.byContradiction fun hn=>?_;have:{key:=jR s ents[i].1,val:=Value.int .i64 ents[i].2,born:=0+i:MapEntry}∈(leftOf (bx s ents 0).toArray seen.toArray).toList:=by
  unfold leftOf;simp;exact⟨by simpa using hm,by simpa using hn⟩
 have hz:(leftOf (bx s ents 0).toArray seen.toArray).toList=[]:=by
  have:(leftOf (bx s ents 0).toArray seen.toArray)=#[]:=Array.eq_empty_of_size_eq_zero h;rw[this]
 rw[hz]at this;simp at this
theorem D7 {s:Bool}{ents:List (List Int × Int)}{seen:List Nat}{x:MapEntry}(h:x∈(leftOf (bx s ents 0).toArray seen.toArray).toList):∃i,i < ents.length/\i∉seen/\x.born=i:=by
 unfold leftOf at h;simp at h;have:=ln s ents 0 x h.1;exact⟨x.born,by omega,by simpa using h.2,rfl⟩
theorem RealC.set_it [Flo]{X:Cfg}{s:FS}{a:Act}{w:World}{c:Cx}(h:RealC X s a w c){k n b bm:Nat}{sB:Bool}{ents:List (List Int × Int)}{seen:List Nat}(i:Nat)(hk:s.heap k= .it n sB ents seen)(hb:c.bl k=some b)(hh:w.heap[b]? =some (.mapIter (some bm) ents.length seen.toArray ents.length))(hM:¬c.M bm)(hm:w.heap[bm]? =some (.map (bx sB ents 0).toArray ents.length)):
 RealC X {s with heap:=cw [(k,.it n sB ents (seen++[i]))] s.heap} a {w with heap:=w.heap.setIfInBounds b (.mapIter (some bm) ents.length (seen.toArray.push i) ents.length)} c:=by
 have cu:c.block k (s.heap k)=some b:=by rw[hk];exact hb
 have hlt:b < w.heap.size:=(Yo.1 hh).1;have bG:b≠bm:=fun e=>hM ((h.mu bm).2 (.inr ⟨k,by rw[cu,e]⟩));have a0Z:(w.heap.setIfInBounds b (.mapIter (some bm) ents.length (seen.toArray.push i) ents.length))[b]? =some (.mapIter (some bm) ents.length (seen.toArray.push i) ents.length):=by simp[hlt]
 have qv:∀b',b'≠b->(w.heap.setIfInBounds b (.mapIter (some bm) ents.length (seen.toArray.push i) ents.length))[b']? =w.heap[b']? :=fun b' hb'=>by
  rw[Array.getElem?_setIfInBounds];rw[af (fun e=>hb' e.symm)]
 refine h.turn c.le_refl rfl (fun _ _=>rfl) (fun _ _=>rfl) rfl rfl rfl ak (fun b' _ hb'=>qv b' (fun e=>hb' (by rw[e];exact cu))) (fun b'=>?_) (fun b' hb'=>?_) (fun mo=>?_)
 ·exact a2a
 ·exact a2P
 ·exact .it n sB ents (seen++[i]) b bm hb (by rw[a0Z];simp) hM (by rw[qv bm (fun e=>bG e.symm)];exact hm)
section
variable {P:Program}{n m:Nat}{T:Nat->Option TI}{Q:Nat->Option Nat}{K K':KT}{e:bU}{h:List Chunk}
theorem D8 [Flo]{c:Code}(hK:∀x e h,K x e h->K' x e h)(hs:uZ P n m c K e h):uZ P n m c K' e h:=fun X hX hn oS a w hr=>
 wp_mono (hs X hX hn oS a w hr) fun _ _ _ ⟨e',h',hk,hr'⟩=>⟨e',h',hK _ _ _ hk,hr'⟩
theorem Ij [Flo]{a b:Code}(bY:TabOK P T Q)(ku:P.follows .mixedOrders=true)(hb:iF n b=true)(ha:uZ P n m a (xn (sC P n m T Q b K ⟨⟩) K) e h):uZ P n m (.seq a b) K e h:=
 Ic fun C hC=>D8 (fun x e h hk=>by
  cases x with
  |normal=>exact hC _ _ (gY bY ku b _ _ _ hb hk)
  |_=>exact hk) ha
theorem D9 [Flo](bY:TabOK P T Q){id d1 d2 k nn:Nat}{o1 o2:Oper}{x:Operand}{sB:Bool}{ents:List (List Int × Int)}{seen:List Nat}(nQ:m<=h.length)(ho1:o1.op= .next x false)(Tu:o1.guard=none)(SC:o1.dst=some d1)(zn:o2.op= .extract (.tmp d1) 0)(hg2:o2.guard=none)(zm:o2.dst=some d2)(hn1:d1 < n)(P7:d2 < n)
 (hx:dA e x= .ptr k 0) (hk:az h k= .it nn sB ents seen) (wF:k < h.length)
 (h0:(∀i,i < ents.length->i∈seen)->K .normal (gW (gW e (some d1) (.tup [.d (.v (.bool false))])) (some d2) (.d (.v (.bool false)))) h)
 (h1:∀i,i < ents.length->i∉seen->K .normal (gW (gW e (some d1) (.tup [.d (.v (.bool true)),.any,.any])) (some d2) (.d (.v (.bool true)))) (qX [(k,.it nn sB ents (seen++[i]))] h)):uZ P n m (.region id #[o1,o2] false) K e h:=by
 intro X hX hn oS a w hr;subst hX;subst hn;subst oS;obtain⟨c,hc⟩:=hr;refine wp_region_list ?_;show wpList X.P #[o1,o2] _ [o1,o2] a w;unfold wpList;rw[ah (by unfold Region.wanted;rw[Tu])];left;have e1:=bI hc x;rw[aG,hx]at e1;have bo:=hc.chunk k;have jq:(bs e h).heap k= .it nn sB ents seen:=hk;rw[jq]at bo;generalize hu:a.eval x=u at e1;have fin:∀(tp:PV) (b:Bool) (e':bU) (h':List Chunk) (a':Act) (w':World),e'=gW e (some d1) tp->(∃l,tp= .tup (.d (.v (.bool b))::l))->X.m<=h'.length->eQ X (bs e' h') a' w'->K .normal (gW e' (some d2) (.d (.v (.bool b)))) h'->wpList X.P #[o1,o2] (RK X K) [o2] a' w':=by
  rintro tp b e' h' a' w' he ⟨l,rfl⟩ hm' hr' hK;unfold wpList;rw[ah (by unfold Region.wanted;rw[hg2])];left;have js:PT T Q e' h' o2= .res (.d (.v (.bool b))) [] [] True:=by
   unfold PT;rw[zn];simp only[dA];rw[show dP e' d1= .tup (.d (.v (.bool b))::l) by rw[he];simp[gW,dP]];simp[AH]
  have bD:=MG (X:=X) (ops:=#[o1,o2]) bY (fun d hd=>by rw[zm]at hd;cases hd;exact P7) hm' js trivial;refine bD.2.2 (bs e' h') (fun _ _=>rfl) (fun _ _=>rfl) a' w' hr' _ _ fun v w'' hr''=>?_;unfold wpList;refine⟨_,_,hK,?_⟩;rw[qa (fun kc h=>by simp at h),zm]at hr'';rw[<-zm]at hr'';simpa[qX,zm]using hr''
 cases e1 with
 |ptr _ _ b hb=>
  cases bo with
  |it _ _ _ _ b' bm hb' hh hM hm=>
   rw[hb]at hb';cases hb';have FE:∀(tp:PV) (v:Value) (h':List Chunk) (w':World) (c':Cx),RealC X (bs e h') a w' c'->RepP c' w' tp v->eQ X (bs (gW e (some d1) tp) h') (a.put o1.dst v) w':=by
    intro tp v h' w' c' hc' hp;have:=hc'.put (dst:=o1.dst) hp (fun d hd=>by rw[SC]at hd;cases hd;exact hn1);have h2:=qa (e:=e) (h:=h') (dst:=o1.dst) (p:=tp) (eff:=[]) (touch:=[]) (fun kc h=>by simp at h);rw[<-SC];refine⟨c',?_⟩;show RealC X (bs (gW e o1.dst tp) (qX [] h')) _ w' c';rw[<-h2];exact this
   rcases run_next_at (P:=X.P) w o1.type b bm ents.length ents.length seen.toArray (bx sB ents 0).toArray ents.length hh hm (fun x hx=>by have:=ln sB ents 0 x (by simpa using hx);omega) (XA _)with⟨hz,cg⟩|⟨x1,pZ,w1,co,cg⟩
   ·unfold Oper.wp;have hex:(execOp a.eval o1).run X.P w= .ok (.value (.tuple #[.bool false])) w:=by
     simp only[execOp,ho1,hu];rw[Sem.run_bind,cg];rfl
    rw[hex];exact fin (.tup [.d (.v (.bool false))]) false _ h _ _ rfl ⟨_,rfl⟩ nQ (FE _ _ h w c hc (.tup _ [.bool false] rfl (fun j d y h1 h2=>by
     match j with
     |0=>exact a3M
     |j+1=>simp at h1))) (h0 fun i hi=>D6 hz hi)
   ·obtain⟨i,hi,VT,WL⟩:=D7 pZ;have Jn:RealC X (bs e h) a w1 c:=by
     rcases co with rfl|rfl
     ·exact hc
     ·exact hc.grow ⟨rfl,rfl,rfl,XA _,fun _ _=>rfl⟩
    have wj:w1.heap=w.heap:=by rcases co with rfl|rfl<;>rfl
    have iU:=Jn.set_it i jq hb (by rw[wj];exact hh) hM (by rw[wj];exact hm);unfold Oper.wp;have hex:(execOp a.eval o1).run X.P w= .ok (.value (.tuple #[.bool true,x1.key,x1.val])) {w1 with heap:=w1.heap.setIfInBounds b (.mapIter (some bm) ents.length (seen.toArray.push i) ents.length)}:=by
     simp only[execOp,ho1,hu];rw[Sem.run_bind,cg,<-WL];rfl
    rw[hex];have bP:∀kc∈[(k,Chunk.it nn sB ents (seen++[i]))],kc.1<=h.length:=fun kc P0=>by simp at P0;subst P0;omega
    have hlc:az (qX [(k,Chunk.it nn sB ents (seen++[i]))] h)=cw [(k,Chunk.it nn sB ents (seen++[i]))] (az h):=funext (t6 bP);have Xf:RealC X (bs e (qX [(k,Chunk.it nn sB ents (seen++[i]))] h)) a {w1 with heap:=w1.heap.setIfInBounds b (.mapIter (some bm) ents.length (seen.toArray.push i) ents.length)} c:=by
     have:bs e (qX [(k,Chunk.it nn sB ents (seen++[i]))] h)={bs e h with heap:=cw [(k,.it nn sB ents (seen++[i]))] (bs e h).heap}:=by
      simp only[bs,hlc]
     rw[this];exact iU
    refine fin (.tup [.d (.v (.bool true)),.any,.any]) true _ _ _ _ rfl ⟨_,rfl⟩ ?_ (FE _ _ _ _ c Xf (.tup _ [.bool true,x1.key,x1.val] rfl (fun j d y h1 h2=>by
     match j with
     |0=>exact a3M
     |1=>exact a4F
     |2=>exact a4F
     |j+3=>simp at h1))) (h1 i hi VT)
    exact Yj nQ si
theorem S7 [Flo]{c:Code}(I:Nat->bU->List Chunk->Prop)(mm:Nat)(e1:bU)(h1:List Chunk)(h0:I mm e1 h1)(hw:cG P n m e h e1 h1)
 (hr:∀k e h,I k e h->∀C:bU->List Chunk->Prop,(∀k' e1 h1 e h,k' < k->I k' e1 h1->cG P n m e h e1 h1->C e h)->uZ P n m c (kG C K) e h):D2 P n m c K ⟨⟩ e h:=
 fun _=>DZ I mm e1 h1 h0 hw fun k e h hI C hC=>D8 (fun x e h hk=>by cases x<;>exact hk) (hr k e h hI C hC)
end
@[go_sem] theorem a1B (h:Nat->Chunk)(l:List D):cI (vw h) (l.map .d)=some l:=wn h 6 l
@[go_sem] theorem a1C (h:Nat->Chunk)(l:List D):j6 (tc h) (l.map .d)=[]:=BS h 6 l
def cq {α:Type}(p:α->Bool)(l:List α):Int:=match l.findIdx? p with|some i=>(i:Int)|none=> -1
theorem gE {α:Type}{p:α->Bool}{l:List α}{k:Nat}{x:α}(hx:l[k]? =some x)(hp:p x=true)(bQ:∀y∈l.take k,p y=false):cq p l=k:=by
 have h:l.findIdx? p=some k:=by
  rw[XK];obtain⟨hk,hx'⟩:=Xm.1 hx;refine⟨hk,by rw[hx'];exact hp,fun j hj=>?_⟩;have:=bQ l[j] (Xk (by rw[XP hj];exact Xj aa));rw[this];simp
 simp[cq,h]
theorem gF {α:Type}{p:α->Bool}{l:List α}(bQ:∀y∈l,p y=false):cq p l= -1:=by
 have h:l.findIdx? p=none:=by rw[Yn];exact bQ
 simp[cq,h]
theorem gp {α:Type}(p:α->Bool)(l:List α):decide (cq p l>=0)=l.any p:=by
 unfold cq;cases h:l.findIdx? p with
 |none=>
  rw[Yn]at h;have:l.any p=false:=by rw[Yh];intro x hx;rw[h x hx];simp
  rw[this];rfl
 |some i=>
  obtain⟨hi,hp,_⟩:=XK.1 h;have:l.any p=true:=XR.2 ⟨_,Yl hi,hp⟩;rw[this];simp
def eN (a b:Int):Int:=if a < b then -1 else if a>b then 1 else 0
theorem sr (a b:Int):decide (eN a b < 0)=decide (a < b):=by
 unfold eN;split
 ·simp[*]
 ·split<;>simp[*]
theorem ug (a b:Int):(eN a b==0)=(a==b):=by
 unfold eN;split
 ·rename_i h;rw[Yi];simp;omega
 ·split
  ·rw[Yi];simp;omega
  ·rw[Yi];simp;omega
theorem xu (x:Int):IntKind.u64.wrap x=x % 18446744073709551616:=rfl
def jV {α:Type}(key:α->Int)(t:Int)(l:List α):Nat:=l.findIdx fun x=>decide (t<=key x)
def ss {α:Type}(key:α->Int)(t:Int)(l:List α):Bool:=match l[jV key t l]? with|some x=>key x==t|none=>false
theorem rf {α:Type}{key:α->Int}{t:Int}{l:List α}{i:Nat}(hi:i<=l.length)(jr:∀q (hq:q < l.length),q < i->key l[q] < t)(kZ:∀q (hq:q < l.length),i<=q->t<=key l[q]):jV key t l=i:=by
 unfold jV;rcases XL i l.length with h|h
 ·rw[List.findIdx_eq h];refine⟨by simpa using kZ i h (XA _),fun j hj=>?_⟩;have:=jr j aa hj;simp;omega
 ·obtain rfl:i=l.length:=aa;rw[List.findIdx_eq_length];intro x hx;obtain⟨q,hq,rfl⟩:=XZ.1 hx;have:=jr q hq hq;simp;omega
theorem pj [Flo]{f nt:Nat}{fn:Func}{c:Code}{rs:Array ResultVar}{ds:List D}{r:D}(hf:prog.funcs[f]? =some fn)(hn:fn.ntmps=nt)(hr:fn.results=rs)
 (hp:sC prog nt 0 nj vU c (ni nj rs.toList r) ⟨⟩ (nZ (ds.map .d) 0) []) (hb:fn.body=some c:=by exact rfl) (hc:B7 fn nt c ds.length=true:=by kernel_rfl):ai prog f ds r:=a0C ag am hf hb hn hr hc hp
theorem mj [Flo]{f nt:Nat}{fn:Func}{c:Code}{rs:Array ResultVar}{args:List PV}{h0 h1:List Chunk}{r:PV}(hf:prog.funcs[f]? =some fn)(hn:fn.ntmps=nt)(hr:fn.results=rs)
 (hp:sC prog nt h0.length nj vU c (zI prog h0.length nj rs.toList r h1) ⟨⟩ (nZ args 0) h0) (hb:fn.body=some c:=by exact rfl) (hc:B7 fn nt c args.length=true:=by kernel_rfl)
 (hle:h0.length<=h1.length:=by simp) (Ae:aw h0.length args=true:=by simp[aw,ay]) (hbh:aL h0.length h0=true:=by simp[aL,aQ,aw,ay,bu,aF]):MSpec prog f args h0 r h1:=jC ag am hf hb hn hr hc hle Ae hbh hp
theorem gt {p:Prop}(h:p:=by
 rintro m e h ⟨k,hk,bQ,rfl,rfl,rfl⟩ CL nR;by_cases hlt:k < l.length
 ·obtain⟨x,hx⟩:∃x,l[k]? =some x:=⟨_,Xj hlt⟩;have fy:(k:Int) < (l.length:Int):=aa;have cX:=wi k aa;have bP:=cU x;have iV:=XM (YW (cU x));have kY:=hc x (Xk hx);cases hp:p x with
  |false=>
   rw[hp]at kY;refine aq ?_<;>intros;refine nR _ _ _ _ _ ?_ ⟨k+1,hlt,?_,rfl,rfl,rfl⟩ (wf (x:=[]) (hh:=rfl) (he:=⟨rfl,rfl,rfl,rfl,rfl,trivial⟩))
   ·omega
   ·intro y hy;rw[aj hx]at hy;rcases X0.1 hy with hy|hy
    ·exact bQ y hy
    ·rw[Yc]at hy;rw[hy];exact hp
  |true=>
   rw[hp]at kY;have mi:cq p l=k:=gE hx hp bQ;exact aY;all_goals rw[mi]
   all_goals exact aO.refl _
 ·obtain rfl:k=l.length:=aa;rw[Xq]at bQ;refine aq ?_<;>intros;all_goals rw[gF bQ]
  all_goals exact aO.refl _):p:=h
theorem a2e {p:Prop}(h:p:=by
 exact wf (x:=[]) (hh:=rfl) (he:=⟨rfl,rfl,rfl,rfl,rfl,trivial⟩)):p:=h
theorem Ea [Flo]{α:Type}{enc:α->List D}(cU:∀x,(enc x).length=2)(p:α->Bool)(l:List α)(g:Nat)(caps:List D)(hl:l.length<=1000000000)(hc:∀x∈l,ai prog g (.agg (enc x)::caps) (.v (.bool (p x)))):
 ai prog 179 [.sl 2 (l.map enc),.clo g caps] (.v (.int .i64 (cq p l))):=by
 refine pj func179 ntmps179 results179 ?_;refine aq ?_<;>intros;refine bL ag am (fun m e h=>∃k:Nat,k<=l.length/\(∀x∈l.take k,p x=false)/\m=l.length - k/\e=[(8,.d (.v (.int .i64 k))),(7,.d (.v (.int .i64 l.length))),(4,.d (.v (.int .i64 0))),(1,.d (.clo g caps)),(0,.d (.sl 2 (l.map enc)))]/\h=[]) _ _ _ ⟨0,XE _,by simp,rfl,rfl,rfl⟩ ?_ ?_
 ·exact a2e
 ·exact gt
theorem vf [Flo]{α:Type}{enc:α->List D}(cU:∀x,(enc x).length=2)(p:α->Bool)(l:List α)(g:Nat)(caps:List D)(hl:l.length<=1000000000)(hc:∀x∈l,ai prog g (.agg (enc x)::caps) (.v (.bool (p x)))):
 ai prog 95 [.sl 2 (l.map enc),.clo g caps] (.v (.bool (l.any p))):=by
 have hi:=Ea cU p l g caps hl hc;have jO:=gp p l;refine pj func95 ntmps95 results95 ?_;exact aY;all_goals exact aO.refl _
theorem lq [Flo](a:Int):ai prog 195 [.v (.int .i64 a)] (.v (.bool false)):=by
 have h:(a !=a)=false:=ak;refine pj func195 ntmps195 results195 ?_;exact aY;all_goals exact aO.refl _
theorem nq [Flo](a b:Int):ai prog 113 [.v (.int .i64 a),.v (.int .i64 b)] (.v (.int .i64 (eN a b))):=by
 rcases Int.lt_trichotomy a b with h|h|h
 ·have h1:decide (a < b)=true:=by simpa using h
  have e:eN a b= -1:=by simp[eN,h]
  refine pj func113 ntmps113 results113 ?_;have z1z:=lq a;have z2z:=lq b;exact aY;all_goals(rw[e];exact aO.refl _)
 ·subst h;have e:eN a a=0:=by simp[eN]
  have h1:decide (a>a)=false:=ak;refine pj func113 ntmps113 results113 ?_;have z1z:=lq a;exact aY;all_goals(rw[e];exact aO.refl _)
 ·have h1:decide (a < b)=false:=aN;have h2:decide (a>b)=true:=by simpa using h
  have e:eN a b=1:=by unfold eN;rw[af aa,ah h]
  refine pj func113 ntmps113 results113 ?_;have z1z:=lq a;have z2z:=lq b;exact aY;all_goals(rw[e];exact aO.refl _)
theorem Eb:∀(h:List Chunk) (k:Nat),az (h.map fun _=>Chunk.gone) k=if k < h.length then .gone else .none
 |[],_=>rfl
 |c::l,0=>rfl
 |c::l,k+1=>by simp only[Xl,az,Eb l k,XC,Nat.add_lt_add_iff_right]
theorem xv [Flo]{P:Program}{f:Nat}{args:List PV}{h0:List Chunk}{ds:List D}{r:D}(hp:ai P f ds r)(Ae:aw h0.length args=true)(hbh:aL h0.length h0=true)(hv:cI (vw (az h0)) args=some ds)(ht:∀k∈j6 (tc (az h0)) args,k < h0.length):MSpec P f args h0 (.d r) (h0.map fun _=> .gone):=by
 refine⟨hp.1,by simp,Ae,hbh,fun X hP hn hm w c vs hr mA=>?_⟩;subst hP;have hf:=hr.freeze (X4 h0.length);obtain⟨q1,q2⟩:=fF hv;have aU:cj (li c (az h0) (X4 h0.length)) w ds vs:=⟨by rw[<-q1];exact mA.1,fun j d x hj hx=>by
  obtain⟨p,hp',y7⟩:=q2 j d hj;exact jv hr 6 y7 (fun k hk=>YO.2 (ht k (go (Xk hp') k hk))) (mA.2 j p x hp' hx)⟩
 refine(hp.2 _ w vs (fun b hb=>hr.lt hb.1) (hr.ginv.keep ⟨XA _,fun _ _ _=>rfl,fun b _ hb=>hb.1⟩) aU).mono ?_;rintro e w' ⟨v,rfl,hv',hx⟩;refine⟨v,{c with M:=li c (az h0) (X4 h0.length)},rfl,.d _ _ hv',?_⟩;have hg:=hf.grow hx;have he:({bs [] h0 with heap:=cw ((X4 h0.length).map fun k=>(k,.gone)) (bs [] h0).heap}:FS)=bs [] (h0.map fun _=> .gone):=by
  simp only[bs,FS.mk.injEq,true_and];funext k;rw[lC,Eb];by_cases hk:k < h0.length
  ·rw[ah (YO.2 hk),ah hk]
  ·rw[af (fun h=>hk (YO.1 h)),af hk];exact od h0 k aa
 rw[he]at hg;exact hg
theorem a3O {p:Prop}(h:p:=by
 intro k';rw[hh];split
 ·rename_i he;subst he;show _=c.block k' (az h k');rw[hk];rfl
 ·rfl):p:=h
theorem MY [Flo](p:PV):ple p p:= .inl rfl
theorem AT [Flo]:∀(l:List PV),vW l l
 |[]=>trivial
 |p::l=>⟨MY p,AT l⟩
theorem Ec [Flo]:∀{a b c d:List PV},vW a b->vW c d->vW (a++c) (b++d)
 |[],[],_,_,_,h=>h
 |[],_::_,_,_,h,_=>h.elim
 |_::_,[],_,_,h,_=>h.elim
 |_::_,_::_,_,_,⟨h1,h2⟩,h=>⟨h1,Ec h2 h⟩
theorem Ed [Flo]:∀{a b:List PV},vW a b->a.length=b.length
 |[],[],_=>rfl
 |[],_::_,h=>h.elim
 |_::_,[],h=>h.elim
 |_::_,_::_,⟨_,h⟩=>by simp[Ed h]
theorem GG [Flo]:∀{a b:List D},qZ a b->vW (a.map .d) (b.map .d)
 |[],[],_=>trivial
 |[],_::_,h=>h.elim
 |_::_,[],h=>h.elim
 |_::_,_::_,⟨h1,h2⟩=>⟨.inr ⟨_,_,rfl,rfl,h1⟩,GG h2⟩
def vX [Flo]:List (List PV)->List (List PV)->Prop
 |[],[]=>True
 |r::l,s::m=>vW r s/\vX l m
 |_,_=>False
theorem uh [Flo]:∀(l:List (List PV)),vX l l
 |[]=>trivial
 |r::l=>⟨AT r,uh l⟩
theorem Ee [Flo]:∀{a b c d:List (List PV)},vX a b->vX c d->vX (a++c) (b++d)
 |[],[],_,_,_,h=>h
 |[],_::_,_,_,h,_=>h.elim
 |_::_,[],_,_,h,_=>h.elim
 |_::_,_::_,_,_,⟨h1,h2⟩,h=>⟨h1,Ee h2 h⟩
theorem AU [Flo]:∀{a b:List (List PV)},vX a b->vW a.flatten b.flatten
 |[],[],_=>trivial
 |[],_::_,h=>h.elim
 |_::_,[],h=>h.elim
 |_::_,_::_,⟨h1,h2⟩=>Ec h1 (AU h2)
theorem Ef [Flo]:∀{a b:List (List PV)},vX a b->a.length=b.length
 |[],[],_=>rfl
 |[],_::_,h=>h.elim
 |_::_,[],h=>h.elim
 |_::_,_::_,⟨_,h⟩=>by simp[Ef h]
theorem Ik [Flo]{sz:Nat}:∀{a b:List (List PV)},vX a b->(∀r∈a,r.length=sz)->∀r∈b,r.length=sz
 |[],[],_,_=>fun r h=>by simp at h
 |[],_::_,h,_=>h.elim
 |_::_,[],h,_=>h.elim
 |_::_,_::_,⟨h1,h2⟩,h=>fun r hr=>by
  rcases XY.1 hr with rfl|hr
  ·rw[<-Ed h1];exact h _ ak
  ·exact Ik h2 (fun r hr=>h r (by simp[hr])) r hr
theorem sv [Flo]{A B:List (List D)}{r s:List D}(h:qZ r s):vX (ab (A++r::B)) (ab (A++s::B)):=by
 simp only[ab,Xn,Xl];exact Ee (uh _) ⟨GG h,uh _⟩
theorem lK {α:Type}{enc:α->List D}(h:∀x,(enc x).all D.one=true)(l:List α):∀r∈ab (l.map enc),∀d∈r,d.one=true:=fun r hr d hd=>by
 obtain⟨q,hq,rfl⟩:=je hr;obtain⟨x,-,rfl⟩:=XF.1 hq;obtain⟨y,hy,rfl⟩:=XF.1 hd;exact XD.1 (h x) y hy
theorem RealC.row_le [Flo]{X:Cfg}{e:bU}{h:List Chunk}{a:Act}{w:World}{c:Cx}(hr:RealC X (bs e h) a w c){k E sz g:Nat}{rows rows':List (List PV)}(hk:az h k= .row E sz g rows)(hlt:k < h.length)(hle:vX rows rows')(h1:∀r∈rows',∀d∈r,d.one=true):
 RealC X (bs e (bw h k (.row E sz g rows'))) a w c:=by
 have hh:∀k',(bs e (bw h k (.row E sz g rows'))).heap k'=if k'=k then .row E sz g rows' else (bs e h).heap k':=fun k'=>ir (G' hlt) k';have hb:∀k',c.block k' ((bs e (bw h k (.row E sz g rows'))).heap k')=c.block k' ((bs e h).heap k'):=a3O
 refine⟨hr.size,hr.defers,hr.ext,hr.inv,hr.fresh,fun b=>?_,fun k' b Jk=>?_,fun k' k'' b h1 h2=>?_,hr.env,fun k'=>?_,hr.lent⟩
 ·rw[hr.mu b];simp only[hb]
 ·rw[hb]at Jk;exact hr.new k' b Jk
 ·rw[hb]at h1 h2;exact hr.apart k' k'' b h1 h2
 ·rw[hh];split
  ·rename_i he;subst he;have bo:=hr.chunk k';rw[show (bs e h).heap k'=_ from hk]at bo;cases bo with
   |row _ _ _ _ v xs hv df HR cK eO hg=>
    exact .row E sz g rows' v xs hv (by rw[<-Ef hle];exact df) (sq (AU hle) HR) (Ik hle cK) h1 hg
  ·exact hr.chunk k'
theorem vg [Flo]{P:Program}{n m:Nat}{e:bU}{h:List Chunk}(k:Nat){E sz g:Nat}{rows rows':List (List PV)}(hk:az h k= .row E sz g rows)(hlt:k < h.length)(hle:vX rows rows')(h1:∀r∈rows',∀d∈r,d.one=true):cG P n m e h e (bw h k (.row E sz g rows')):=
 fun X _ _ _ a w ⟨c,hc⟩=>⟨c,hc.row_le hk hlt hle h1⟩
theorem MSpec.leh [Flo]{P:Program}{f:Nat}{args:List PV}{E sz g:Nat}{rows rows':List (List PV)}{r:PV}{h1:List Chunk}(hM:MSpec P f args [.row E sz g rows'] r h1)(hle:vX rows rows')(ho:∀r∈rows',∀d∈r,d.one=true)(hb:cB 1 rows=true):MSpec P f args [.row E sz g rows] r h1:=
 ⟨hM.fn,hM.le,hM.ba,by simp only[XC,XX,aL,aQ,Xw,hb,Yq],fun X hP hn hm w c vs hr mA=>hM.run X hP hn hm w c vs (hr.row_le (k:=0) rfl ak hle ho) mA⟩
theorem xx [Flo]{α:Type}{enc:α->List D}(cU:∀x,(enc x).length=3)(p:α->Bool)(l:List α)(g:Nat)(caps:List D)(hl:l.length<=1000000000)(hc:∀x∈l,ai prog g (.agg (enc x)::caps) (.v (.bool (p x)))):
 ai prog 143 [.sl 3 (l.map enc),.clo g caps] (.v (.int .i64 (cq p l))):=by
 refine pj func143 ntmps143 results143 ?_;refine aq ?_<;>intros;refine bL ag am (fun m e h=>∃k:Nat,k<=l.length/\(∀x∈l.take k,p x=false)/\m=l.length - k/\e=[(8,.d (.v (.int .i64 k))),(7,.d (.v (.int .i64 l.length))),(4,.d (.v (.int .i64 0))),(1,.d (.clo g caps)),(0,.d (.sl 3 (l.map enc)))]/\h=[]) _ _ _ ⟨0,XE _,by simp,rfl,rfl,rfl⟩ ?_ ?_
 ·exact a2e
 ·exact gt
theorem ol [Flo]{α:Type}{enc:α->List D}(cU:∀x,(enc x).length=3)(p:α->Bool)(l:List α)(g:Nat)(caps:List D)(hl:l.length<=1000000000)(hc:∀x∈l,ai prog g (.agg (enc x)::caps) (.v (.bool (p x)))):
 ai prog 209 [.sl 3 (l.map enc),.clo g caps] (.v (.bool (l.any p))):=by
 have hi:=xx cU p l g caps hl hc;have jO:=gp p l;refine pj func209 ntmps209 results209 ?_;exact aY;all_goals exact aO.refl _
theorem xy [Flo]{α:Type}{enc:α->List D}(cU:∀x,(enc x).length=4)(p:α->Bool)(l:List α)(g:Nat)(caps:List D)(hl:l.length<=1000000000)(hc:∀x∈l,ai prog g (.agg (enc x)::caps) (.v (.bool (p x)))):
 ai prog 213 [.sl 4 (l.map enc),.clo g caps] (.v (.int .i64 (cq p l))):=by
 refine pj func213 ntmps213 results213 ?_;refine aq ?_<;>intros;refine bL ag am (fun m e h=>∃k:Nat,k<=l.length/\(∀x∈l.take k,p x=false)/\m=l.length - k/\e=[(8,.d (.v (.int .i64 k))),(7,.d (.v (.int .i64 l.length))),(4,.d (.v (.int .i64 0))),(1,.d (.clo g caps)),(0,.d (.sl 4 (l.map enc)))]/\h=[]) _ _ _ ⟨0,XE _,by simp,rfl,rfl,rfl⟩ ?_ ?_
 ·exact a2e
 ·exact gt
theorem xz [Flo]{α:Type}{enc:α->List D}(cU:∀x,(enc x).length=4)(p:α->Bool)(l:List α)(g:Nat)(caps:List D)(hl:l.length<=1000000000)(hc:∀x∈l,ai prog g (.agg (enc x)::caps) (.v (.bool (p x)))):
 ai prog 145 [.sl 4 (l.map enc),.clo g caps] (.v (.bool (l.any p))):=by
 have hi:=xy cU p l g caps hl hc;have jO:=gp p l;refine pj func145 ntmps145 results145 ?_;exact aY;all_goals exact aO.refl _
theorem AV [Flo]{α:Type}{enc:α->List D}(cU:∀x,(enc x).length=2)(p:α->Bool)(l:List α)(g:Nat)(caps:List D)(hl:l.length<=1000000000)(hc:∀x∈l,ai prog g (.agg (enc x)::caps) (.v (.bool (p x)))):
 ai prog 217 [.sl 2 (l.map enc),.clo g caps] (.v (.int .i64 (cq p l))):=by
 refine pj func217 ntmps217 results217 ?_;refine aq ?_<;>intros;refine bL ag am (fun m e h=>∃k:Nat,k<=l.length/\(∀x∈l.take k,p x=false)/\m=l.length - k/\e=[(8,.d (.v (.int .i64 k))),(7,.d (.v (.int .i64 l.length))),(4,.d (.v (.int .i64 0))),(1,.d (.clo g caps)),(0,.d (.sl 2 (l.map enc)))]/\h=[]) _ _ _ ⟨0,XE _,by simp,rfl,rfl,rfl⟩ ?_ ?_
 ·exact a2e
 ·exact gt
theorem Kc [Flo]{α:Type}{enc:α->List D}(cU:∀x,(enc x).length=2)(p:α->Bool)(l:List α)(g:Nat)(caps:List D)(hl:l.length<=1000000000)(hc:∀x∈l,ai prog g (.agg (enc x)::caps) (.v (.bool (p x)))):
 ai prog 230 [.sl 2 (l.map enc),.clo g caps] (.v (.bool (l.any p))):=by
 have hi:=AV cU p l g caps hl hc;have jO:=gp p l;refine pj func230 ntmps230 results230 ?_;exact aY;all_goals exact aO.refl _
def AW:D->Value
 | .v x=>x
 |_=>undef
def S8:D->Value
 | .v x=>x
 | .agg l=> .agg (l.map AW).toArray
 |_=>undef
def Ke:D->Value
 | .v x=>x
 | .agg l=> .agg (l.map AW).toArray
 | .tup l=> .tuple (l.map S8).toArray
 |_=>undef
theorem sw {vs:List Value}{ds:List D}{f:D->Value}(hl:ds.length=vs.length)(h:∀(j:Nat) (d:D) (x:Value),ds[j]? =some d->vs[j]? =some x->x=f d):vs=ds.map f:=by
 apply Yg;intro j;rw[Xr];cases hd:ds[j]? with
 |none=>
  have:ds.length<=j:=by simpa using hd
  rw[XN aa];rfl
 |some d=>
  have hlt:j < vs.length:=by rw[<-hl];exact(Xm.1 hd).1
  rw[Xj hlt,h j d _ hd (Xj hlt)];rfl
theorem Il [Flo]{M:Nat->Prop}{w:World}{d:D}{v:Value}(h:RepD M w d v)(hf:d.isV=true):v=AW d:=by
 cases d<;>simp[D.isV]at hf;cases h;rfl
theorem MZ [Flo]{M:Nat->Prop}{w:World}{d:D}{v:Value}(h:RepD M w d v)(hf:d.flat=true):v=Ke d:=by
 cases h with
 |v=>rfl
 |agg cells vs hl h1 aU=>
  simp only[D.flat,XD]at hf;rw[sw (f:=AW) hl fun j d x hj hx=>Il (aU j d x hj hx) (hf d (Xk hj))];rfl
 |tup ds vs hl aU=>
  simp only[D.flat,XD]at hf;rw[sw (f:=S8) hl fun j d x hj hx=>?_]
  ·rfl
  ·have h0:=aU j d x hj hx;have h1:=hf d (Xk hj);cases h0 with
   |v=>rfl
   |agg cells us hl' h1' pX=>
    simp only[XD]at h1;rw[sw (f:=AW) hl' fun j d x hj hx=>Il (pX j d x hj hx) (h1 d (Xk hj))];rfl
   |_=>simp at h1
 |_=>simp[D.flat]at hf
def D.aggOK:D->Bool
 | .agg l=>l.all D.one
 | .tup l=>l.all fun d=>match d with| .agg l=>l.all D.one|_=>true
 |_=>true
theorem Im [Flo]{M:Nat->Prop}{w:World}(ds:List D)(hf:∀d∈ds,d.isV=true):∀(j:Nat) (d:D) (x:Value),ds[j]? =some d->(ds.map AW)[j]? =some x->RepD M w d x:=by
 intro j d x hj hx;rw[Xr,hj]at hx;cases hx;have:=hf d (Xk hj);cases d<;>simp[D.isV]at this;exact .v _
theorem Cb [Flo]{M:Nat->Prop}{w:World}{d:D}(hf:d.flat=true)(h1:d.aggOK=true):RepD M w d (Ke d):=by
 cases d with
 |v x=>exact .v x
 |agg l=>
  simp only[D.flat,XD]at hf;simp only[D.aggOK,XD]at h1;exact .agg l _ ak h1 (Im l hf)
 |tup l=>
  simp only[D.flat,XD]at hf;simp only[D.aggOK,XD]at h1;refine .tup l _ ak fun j d x hj hx=>?_;rw[Xr,hj]at hx;cases hx;have h2:=hf d (Xk hj);have h3:=h1 d (Xk hj);cases d with
  |v x=>exact .v x
  |agg l'=>
   simp only[XD]at h2 h3;exact .agg l' _ ak h3 (Im l' h2)
  |_=>simp at h2
 |_=>simp[D.flat]at hf
theorem fm [Flo]{P:Program}{f:Nat}{ds:List D}{r:D}(hn:zB P f)(hf:∀d∈ds,d.flat=true)(hr:r.flat=true)(qw:r.aggOK=true)(h:∀w,Calls P f (ds.map Ke).toArray w fun e w'=>e= .returned (Ke r)/\dy w w'):ai P f ds r:=by
 refine⟨hn,fun M w vs _ _ fD=>?_⟩;rw[sw (f:=Ke) fD.1 fun j d x hj hx=>MZ (fD.2 j d x hj hx) (hf d (Xk hj))];exact(h w).mono fun e w' ⟨he,hx⟩=>⟨Ke r,he,Cb hr qw,hx⟩
theorem fU [Flo]{M:Nat->Prop}{w:World}{d:D}{ds:List D}{vs:List Value}(h:cj M w (d::ds) vs):∃v us,vs=v::us/\RepD M w d v/\cj M w ds us:=by
 cases vs with
 |nil=>have:=h.1;simp at this
 |cons v us=>exact⟨v,us,rfl,h.2 0 d v rfl rfl,⟨by simpa using h.1,fun j d x hj hx=>h.2 (j+1) d x (by simpa using hj) (by simpa using hx)⟩⟩
theorem ns [Flo]{M:Nat->Prop}{w:World}{vs:List Value}(h:cj M w [] vs):vs=[]:=by
 cases vs with
 |nil=>rfl
 |cons v us=>have:=h.1;simp at this
theorem M1 [Flo]{M:Nat->Prop}{w:World}{ds:List D}{v:Value}(h:RepD M w (.agg ds) v):∃vs:List Value,v= .agg vs.toArray/\cj M w ds vs:=by
 cases h with
 |agg _ vs hl h1 aU=>exact⟨vs,rfl,hl,aU⟩
theorem ui [Flo]{M:Nat->Prop}{w:World}{x v:Value}(h:RepD M w (.v x) v):v=x:=by cases h;rfl
theorem QQ [Flo]{M:Nat->Prop}{w:World}{us:List Pfx}{v:Value}(h:RepD M w (.sl 2 (us.map aS)) v):∃ao cap,v= .slice ao us.length cap/\Sl (fun b=>¬M b) w 2 cP ao cap us:=by
 generalize hr:us.map aS=rows at h;have hl:us.length=rows.length:=by rw[<-hr];simp
 cases h with
 |nil _ ao cap hm=>
  have:us=[]:=X9 (by simpa using hl);subst this;exact⟨ao,cap,rfl,⟨XE _,hm,fun i hi=>absurd hi (Yy _)⟩⟩
 |sl _ _ b off cap f hM hb hc hm hr' h1 cf aU=>
  refine⟨_,cap,by rw[hl],⟨by omega,hm,fun i hi=>⟨b,off,[.int .i64 us[i].at_,.int .i64 us[i].len],rfl,hM,rfl,rfl,fun j hj=>?_⟩⟩⟩;have b9:rows[i]? =some (aS us[i]):=by rw[<-hr,Xr,Xj hi];rfl
  have hcj:=cf i j aa hj;rw[hcj];match j,hj with
  |0,_=>rw[ui (aU i 0 _ _ b9 rfl)];rfl
  |1,_=>rw[ui (aU i 1 _ _ b9 rfl)];rfl
theorem Cc [Flo]{M:Nat->Prop}{w:World}{root:Pfx}{us:List Pfx}{v:Value}(h:RepD M w (.agg (GC root us)) v):∃uo cap,v= .agg #[.int .i64 root.at_,.int .i64 root.len,.slice uo us.length cap]/\Sl (fun b=>¬M b) w 2 cP uo cap us:=by
 obtain⟨vs,rfl,gS⟩:=M1 h;obtain⟨a,vs,rfl,ha,gS⟩:=fU gS;obtain⟨b,vs,rfl,hb,gS⟩:=fU gS;obtain⟨c,vs,rfl,hc,gS⟩:=fU gS;rw[ns gS,ui ha,ui hb];obtain⟨ao,cap,rfl,hs⟩:=QQ hc;exact⟨ao,cap,rfl,hs⟩
section
open Go.Proofs
def fV (n lo hi:Int):Bool:=decide (lo<=n)&&decide (n<=hi)
theorem om (n lo hi:Int)(w:World):
 Calls prog 75 #[.int .i64 n,.int .i64 lo,.int .i64 hi] w fun e w'=>e= .returned (.bool (fV n lo hi))/\w=w':=by
 by_cases h1:lo<=n
 ·by_cases h2:n<=hi
  ·have hr:fV n lo hi=true:=by simp[fV,h1,h2]
   replace hr:=Xi hr;go_enter func75,ntmps75
   go_wp2_with fail
   go_ret
   first|exact⟨dt hr.out.symm,rfl⟩|exact⟨rfl,rfl⟩
  ·have hr:fV n lo hi=false:=by simp[fV,h2]
   replace hr:=Xi hr;go_enter func75,ntmps75
   go_wp2_with fail
   go_ret
   first|exact⟨dt hr.out.symm,rfl⟩|exact⟨rfl,rfl⟩
 ·have hr:fV n lo hi=false:=by simp[fV,h1]
  replace hr:=Xi hr;go_enter func75,ntmps75
  go_wp2_with fail
  go_ret
  first|exact⟨dt hr.out.symm,rfl⟩|exact⟨rfl,rfl⟩
end
section
open Go.Proofs
structure Hr (Q:Prop):Prop where
 out:Q
theorem LU {Q P:Prop}(q:Q)(h:Hr Q->P:=by
 intro q;refine Gx aK aK ?_;repeat(first|((first|refine TU rfl rfl rfl cY ?_|refine TV rfl rfl rfl cY ?_|refine TW rfl rfl rfl cY ?_);simp only[Act.put,XQ,XT,X2])|(apply Gw;(first|exact dQ rfl|exact eE rfl rfl rfl cY);intro wq jN R hR;(have mV:=(aX jN).1;(try simp only[Xt,ae,Xy,Xu]at mV);go_simp;first|exact hR|(first|(go_at_call 189;exact MI jN (rg _ _ _) hR)|(go_at_call 224;exact MI jN (vh _ _ _ _) hR)|(go_at_call 190;exact MI jN (sx _ _ _ gR) hR)|(go_at_call 75;exact xm jN (om _ _ _ _) hR)|(go_at_call 240;exact xm jN (xA _ _ g1 g2) hR)));simp only[Act.put,XQ,XT,X2]))
 refine wpQuiet_nil ?_;exact q.out):P:=h ⟨q⟩
def eV (n:Int):Int:=2 ^ (16 - n).toNat
theorem fG {n:Int}(h0:0<=n):1<=eV n/\eV n<=65536:=by have:=xq n h0;unfold eV;omega
theorem xA (n:Int)(w:World)(h0:0<=n)(h1:n<=16):
 Calls prog 240 #[.int .i64 n] w fun e w'=>e= .returned (.int .i64 (eV n))/\w=w':=by
 have hp:=xq n h0;go_enter func240,ntmps240
 go_wp2
 go_ret
 exact⟨rfl,rfl⟩
theorem vY (a l:Int)(w:World):
 Calls prog 239 #[.agg #[.int .i64 a,.int .i64 l]] w fun e w'=>e= .returned (.int .i64 (chk a l))/\dy w w':=by
 by_cases hl:0<=l/\l<=16
 ·have e1:fV l 0 16=true:=by simp[fV,hl]
  by_cases ha:0<=a/\a<=65535
  ·have e2:fV a 0 65535=true:=by simp[fV,ha]
   have hm:=xq l hl.1;obtain⟨⟨g1,g2⟩,g3,g4⟩:=And.intro hl ha;clear hl ha;obtain⟨z1,z2⟩:=fG g1;have z3:¬eV l=0:=aa;have hc:=Xi (Gz g1 g2 g3 g4);go_enter func239,ntmps239
   go_wp2_with (first|(go_at_call 75;refine(om _ _ _ _).mono ?_;rintro e w' ⟨rfl,rfl⟩))
   refine LU ?_;intro w1 co;obtain⟨ci,cn⟩:=aX co;have cp:=bv co;(try simp only[Xt,ae,Xy,Xu]at ci cn cp)
   go_wp2_with fail
   ·go_ret
    rename_i h;refine⟨ce ?_,?_⟩
    ·rw[hc.out,af (by rw[Int.tmod_eq_emod_of_nonneg g3]at h;simpa[eV]using h)]
    ·refine Bel.bel (B:=_) ?_;exact eA
   ·go_ret
    rename_i h;refine⟨ce ?_,?_⟩
    ·rw[hc.out,ah (by rw[Int.tmod_eq_emod_of_nonneg g3]at h;simpa[eV]using h)]
    ·refine Bel.bel (B:=_) ?_;exact eA
  ·have e2:fV a 0 65535=false:=by simp[fV];omega
   have hc:=Xi (MO (a:=a) (l:=l) aa);clear hl ha;go_enter func239,ntmps239
   go_wp2_with (first|(go_at_call 75;refine(om _ _ _ _).mono ?_;rintro e w' ⟨rfl,rfl⟩))
   go_ret
   refine⟨ce hc.out.symm,?_⟩;refine Bel.bel (B:=_) ?_;exact eA
 ·have e1:fV l 0 16=false:=by simp[fV];omega
  have hc:=Xi (MO (a:=a) (l:=l) aa);clear hl;go_enter func239,ntmps239
  go_wp2_with (first|(go_at_call 75;refine(om _ _ _ _).mono ?_;rintro e w' ⟨rfl,rfl⟩))
  go_ret
  refine⟨ce hc.out.symm,?_⟩;refine Bel.bel (B:=_) ?_;exact eA
def lL (a l:Int):Int:=a+eV l - 1
def bC (a l:Int):Bool:=chk a l==0
def lM (a l x:Int):Bool:=bC a l&&fV x a (lL a l)
def zJ (a l b m:Int):Bool:=bC a l&&bC b m&&lM b m a&&lM b m (lL a l)
def oL (a l b m:Int):Bool:=bC a l&&bC b m&&decide (a<=lL b m)&&decide (b<=lL a l)
theorem dR {a l:Int}(h:bC a l=true):0<=l/\l<=16/\0<=a/\a<=65535/\a % eV l=0:=by
 have h0:chk a l=0:=by simpa[bC]using h
 unfold chk at h0;split at h0
 ·omega
 ·rename_i h1;split at h0
  ·rename_i h2;exact⟨by omega,by omega,by omega,by omega,h2⟩
  ·omega
theorem rg (a l:Int)(w:World):
 Calls prog 189 #[.agg #[.int .i64 a,.int .i64 l]] w fun e w'=>e= .returned (.bool (bC a l))/\dy w w':=by
 go_enter func189,ntmps189
 go_wp2_with fail
 refine(vY a l _).mono ?_;rintro e w1 ⟨rfl,co⟩;obtain⟨ci,cn⟩:=aX co;have cp:=bv co;(try simp only[Xt,ae,Xy,Xu]at ci cn cp)
 go_wp2_with fail
 go_ret
 refine⟨dt rfl,Bel.bel (B:=_) ?_⟩;exact eA
theorem sx (a l:Int)(w:World)(h:bC a l=true):
 Calls prog 190 #[.agg #[.int .i64 a,.int .i64 l]] w fun e w'=>e= .returned (.int .i64 (lL a l))/\dy w w':=by
 obtain⟨g1,g2,g3,g4,-⟩:=dR h;obtain⟨z1,z2⟩:=fG g1;clear h;go_enter func190,ntmps190
 go_wp2_with fail
 refine LU ?_;intro w1 co;obtain⟨ci,cn⟩:=aX co;have cp:=bv co;(try simp only[Xt,ae,Xy,Xu]at ci cn cp)
 go_wp2_with fail
 go_ret
 refine⟨ce (by simp only[IntKind.wrap_i64];unfold lL;omega),Bel.bel (B:=_) ?_⟩;exact eA
theorem vh (a l x:Int)(w:World):
 Calls prog 224 #[.agg #[.int .i64 a,.int .i64 l],.int .i64 x] w fun e w'=>e= .returned (.bool (lM a l x))/\dy w w':=by
 by_cases h:bC a l=true
 ·have hv:lM a l x=fV x a (lL a l):=by simp[lM,h]
  rw[hv];go_enter func224,ntmps224
  go_wp2_with fail
  refine LU ?_;intro w1 co;obtain⟨ci,cn⟩:=aX co;have cp:=bv co;(try simp only[Xt,ae,Xy,Xu]at ci cn cp)
  go_wp2_with fail
  go_ret
  refine⟨dt rfl,Bel.bel (B:=_) ?_⟩;exact eA
 ·have h:=(ZM _).mp h;have hv:lM a l x=false:=by simp[lM,h]
  rw[hv];go_enter func224,ntmps224
  go_wp2_with fail
  refine LU ?_;intro w1 co;obtain⟨ci,cn⟩:=aX co;have cp:=bv co;(try simp only[Xt,ae,Xy,Xu]at ci cn cp)
  go_wp2_with fail
  go_ret
  refine⟨dt rfl,Bel.bel (B:=_) ?_⟩;exact eA
theorem sy (a l b m:Int)(w:World):
 Calls prog 169 #[.agg #[.int .i64 a,.int .i64 l],.agg #[.int .i64 b,.int .i64 m]] w fun e w'=>e= .returned (.bool (zJ a l b m))/\dy w w':=by
 cases hA:bC a l
 case false=>
  go_enter func169,ntmps169
  go_wp2_with fail
  refine LU ?_;intro w1 co;obtain⟨ci,cn⟩:=aX co;have cp:=bv co;(try simp only[Xt,ae,Xy,Xu]at ci cn cp)
  go_wp2_with fail
  go_ret
  refine⟨dt (by simp[zJ,hA]),Bel.bel (B:=_) ?_⟩;exact eA
 case true=>
  cases hB:bC b m
  case false=>
   go_enter func169,ntmps169
   go_wp2_with fail
   refine LU ?_;intro w1 co;obtain⟨ci,cn⟩:=aX co;have cp:=bv co;(try simp only[Xt,ae,Xy,Xu]at ci cn cp)
   go_wp2_with fail
   go_ret
   refine⟨dt (by simp[zJ,hA,hB]),Bel.bel (B:=_) ?_⟩;exact eA
  case true=>
   cases hC:lM b m a
   case false=>
    go_enter func169,ntmps169
    go_wp2_with fail
    refine LU ?_;intro w1 co;obtain⟨ci,cn⟩:=aX co;have cp:=bv co;(try simp only[Xt,ae,Xy,Xu]at ci cn cp)
    go_wp2_with fail
    go_ret
    refine⟨dt (by simp[zJ,hA,hB,hC]),Bel.bel (B:=_) ?_⟩;exact eA
   case true=>
    go_enter func169,ntmps169
    go_wp2_with fail
    refine LU ?_;intro w1 co;obtain⟨ci,cn⟩:=aX co;have cp:=bv co;(try simp only[Xt,ae,Xy,Xu]at ci cn cp)
    go_wp2_with fail
    go_ret
    refine⟨dt (by simp[zJ,hA,hB,hC]),Bel.bel (B:=_) ?_⟩;exact eA
theorem sD (a l b m:Int)(w:World):
 Calls prog 106 #[.agg #[.int .i64 a,.int .i64 l],.agg #[.int .i64 b,.int .i64 m]] w fun e w'=>e= .returned (.bool (oL a l b m))/\dy w w':=by
 cases hA:bC a l
 case false=>
  go_enter func106,ntmps106
  go_wp2_with fail
  refine LU ?_;intro w1 co;obtain⟨ci,cn⟩:=aX co;have cp:=bv co;(try simp only[Xt,ae,Xy,Xu]at ci cn cp)
  go_wp2_with fail
  go_ret
  refine⟨dt (by simp[oL,hA]),Bel.bel (B:=_) ?_⟩;exact eA
 case true=>
  cases hB:bC b m
  case false=>
   go_enter func106,ntmps106
   go_wp2_with fail
   refine LU ?_;intro w1 co;obtain⟨ci,cn⟩:=aX co;have cp:=bv co;(try simp only[Xt,ae,Xy,Xu]at ci cn cp)
   go_wp2_with fail
   go_ret
   refine⟨dt (by simp[oL,hA,hB]),Bel.bel (B:=_) ?_⟩;exact eA
  case true=>
   cases hC:decide (a<=lL b m)
   case false=>
    go_enter func106,ntmps106
    go_wp2_with fail
    refine LU ?_;intro w1 co;obtain⟨ci,cn⟩:=aX co;have cp:=bv co;(try simp only[Xt,ae,Xy,Xu]at ci cn cp)
    go_wp2_with fail
    go_ret
    refine⟨dt (by simp[oL,hA,hB,hC]),Bel.bel (B:=_) ?_⟩;exact eA
   case true=>
    go_enter func106,ntmps106
    go_wp2_with fail
    refine LU ?_;intro w1 co;obtain⟨ci,cn⟩:=aX co;have cp:=bv co;(try simp only[Xt,ae,Xy,Xu]at ci cn cp)
    go_wp2_with fail
    go_ret
    refine⟨dt (by simp[oL,hA,hB,hC]),Bel.bel (B:=_) ?_⟩;exact eA
end
theorem a4T {p:Prop}(h:p:=by
 exact⟨b,0,_,rfl,trivial,rfl,rfl,iy h0 (iy h1 pp)⟩):p:=h
section
open Go.Proofs
theorem iy {w:World}{b off:Nat}{c:Value}{cs:List Value}(h:w.cell? ⟨b,off,none⟩=some c)(hs:mD w b (off+1) cs):mD w b off (c::cs):=by
 intro i hi;match i with
 |0=>simpa using h
 |i+1=>have:=hs i (by simpa using hi);simpa[ZI,Nat.add_comm 1 i]using this
theorem pp {w:World}{b off:Nat}:mD w b off []:=fun i hi=>absurd hi ak
theorem uj {w:World}{b:Nat}(a l:Int)(v:Bool)(hv:bC a l=v)(h0:w.cell? ⟨b,0,none⟩=some (.int .i64 a))(h1:w.cell? ⟨b,1,none⟩=some (.int .i64 l)):
 Calls prog 48 #[.slice (some ⟨b,0,none⟩) 1 1] w fun e w'=>e= .returned (.bool v)/\dy w w':=by
 have h:Sl (fun _=>True) w 2 cP (some ⟨b,0,none⟩) 1 [(⟨a,l⟩:Pfx)]:=by
  refine⟨by simp,by omega,fun i hi=>?_⟩;match i with
  |0=>exact a4T
 refine(AL h).mono fun e w' hh=>⟨hh.1.trans (dt ?_),hh.2⟩;rw[<-hv];simp[bC,Pfx.chk]
theorem GH {w:World}{b:Nat}(a l c m:Int)(v:Bool)(hv:(bC a l&&bC c m)=v)(h0:w.cell? ⟨b,0,none⟩=some (.int .i64 a))(h1:w.cell? ⟨b,1,none⟩=some (.int .i64 l))
 (h2:w.cell? ⟨b,2,none⟩=some (.int .i64 c)) (h3:w.cell? ⟨b,3,none⟩=some (.int .i64 m)):
 Calls prog 48 #[.slice (some ⟨b,0,none⟩) 2 2] w fun e w'=>e= .returned (.bool v)/\dy w w':=by
 have h:Sl (fun _=>True) w 2 cP (some ⟨b,0,none⟩) 2 [(⟨a,l⟩:Pfx),⟨c,m⟩]:=by
  refine⟨by simp,by omega,fun i hi=>?_⟩;match i with
  |0=>exact a4T
  |1=>exact⟨b,0,_,rfl,trivial,rfl,rfl,iy h2 (iy h3 pp)⟩
 refine(AL h).mono fun e w' hh=>⟨hh.1.trans (dt ?_),hh.2⟩;rw[<-hv];simp[bC,Pfx.chk]
theorem Kf (x y:BitVec 64):(x&&& ~~~y).toNat=x.toNat - (x&&& y).toNat:=by
 have h1:(x&&& ~~~y)&&& (x&&& y)=0#64:=by
  ext i hi
  simp only[BitVec.getElem_and,BitVec.getElem_not,BitVec.getElem_zero];cases x[i]<;>cases y[i]<;>rfl
 have h2:(x&&& ~~~y)+(x&&& y)=x:=by
  rw[BitVec.add_eq_or_of_and_eq_zero _ _ h1];ext i hi
  simp only[BitVec.getElem_and,BitVec.getElem_not,BitVec.getElem_or];cases x[i]<;>cases y[i]<;>rfl
 have h4:=BitVec.toNat_add_of_and_eq_zero h1;rw[h2]at h4;omega
theorem xB (a l:Int)(h0:0<=a)(h1:a<=65535)(h2:0<=l):bits .andNot .i64 a (Gy l)=a - a % eV l:=by
 obtain⟨n,rfl⟩:=Int.eq_ofNat_of_zero_le h0;have hm:=re l h2;rw[B4]at hm ⊢;show IntKind.i64.wrap ((BitVec.ofInt 64 (n:Int)&&& ~~~ BitVec.ofInt 64 _).toNat:Int)=_;rw[Kf,BitVec.toNat_and,lE n aa,lE _ aa,_e,IntKind.wrap_i64];have:=Nat.mod_le n (2 ^ (16 - l).toNat);unfold eV;have h9:((n:Int) % 2 ^ (16 - l).toNat)=((n % 2 ^ (16 - l).toNat:Nat):Int):=ak;omega
def vj (a l:Int):Int:=if bC a l=true then eV l else 0
theorem Eg (a l:Int)(w:World):
 Calls prog 176 #[.agg #[.int .i64 a,.int .i64 l]] w fun e w'=>e= .returned (.int .i64 (vj a l))/\dy w w':=by
 cases hA:bC a l
 case false=>
  have hs:vj a l=0:=by simp[vj,hA]
  rw[hs];have hv:=Xi hA;go_enter func176,ntmps176
  go_wp2_with (first|(go_at_call 48;refine(uj a l _ hv.out ?_ ?_).mono ?_;go_simp;go_simp;rintro e w1 ⟨rfl,co⟩))
  go_ret
  refine⟨rfl,Bel.bel (B:=_) ?_⟩;exact eA
 case true=>
  have hs:vj a l=Gy l+1:=by simp[vj,hA,Gy,eV]
  rw[hs];have hv:=Xi hA;obtain⟨g1,g2,g3,g4,-⟩:=dR hA;obtain⟨z1,z2⟩:=re l g1;go_enter func176,ntmps176
  go_wp2_with (first|(go_at_call 48;refine(uj a l _ hv.out ?_ ?_).mono ?_;go_simp;go_simp;rintro e w1 ⟨rfl,co⟩;obtain⟨ci,cn⟩:=aX co;simp only[Xt]at ci cn)|(go_at_call 49;refine(pn _ _ g1 g2).mono ?_;rintro e w2 ⟨rfl,rfl⟩))
  go_ret
  refine⟨rfl,Bel.bel (B:=_) ?_⟩;exact eA
end
theorem LE {p:Prop}(h:p:=by
 rename_i hw;simp only[hw,if_true]at h;rcases h with h|⟨vO,FF⟩
 case inr=>exact .inr ⟨by unfold Oper.asks at*;rw[execOp_put oj Tv a oi.dst v h1]at vO;exact vO,FF⟩
 refine .inl ?_;unfold Oper.wp at*;rw[execOp_put oj Tv a oi.dst v h1]at h;generalize (execOp a.eval oj).run P w=r at*;cases r with
 |ok n w'=>
  cases n<;>simp only[Oper.upon]at h ⊢
  case value u=>exact⟨keep a hy u,by rw[<-Act.put_comm a v u h2];exact h⟩
  case skip=>exact⟨keep a hy _,by rw[<-Act.put_comm a v undef h2];exact h⟩
  case defer d=>
   refine⟨keep _ (keepD d) _,?_⟩;rw[<-Act.put_comm _ v undef h2,<-Act.put_defers];exact h
  case enter f args=>
   refine Calls.mono h fun e w'' he=>?_;cases e with
   |returned u=>exact⟨keep a hy u,by rw[<-Act.put_comm a v u h2];exact he⟩
   |panicked c=>exact hQ _ _ _ he
   |outgrown=>exact he
  case row row args=>exact Rows.mono h fun u w'' he=>⟨keep a hy u,by rw[<-Act.put_comm a v u h2];exact he⟩
 |halt x w'=>
  cases x<;>simp only[Oper.upon]at h ⊢
  case panic u=>exact hQ _ _ _ h):p:=h
theorem a2g {p:Prop}(h:p:=by
  have h1:=bO e he hb;have h0:=(mem_ready.1 hr).1;rw[heq]at h1;rcases XL i listed.size with h'|h'
  ·simp[h']at h0 h1;rw[h0]at h1;cases h1
  ·simp[YJ h']at h1):p:=h
theorem a2z {p:Prop}(h:p:=by
 rename_i hw;simp only[hw]at h;exact⟨keep a hy _,by rw[<-Act.put_comm a v undef h2];exact h⟩):p:=h
theorem a3S {p:Prop}(h:p:=by
 have:=ready_mono hj kX;rw[H.1]at this;cases this):p:=h
theorem a4r {p:Prop}(h:p:=by
 subst kX;exact hy.wpOp hi hw fun w' hw'=>⟨hw',H.world (ap hw hw')⟩):p:=h
theorem a4x {p:Prop}(h:p:=by
 rw[getD_set_ne true CY]at Tw;exact Tw):p:=h
theorem a4U {p:Prop}(h:p:=by
 simp only[CX,Yz,if_false];exact h w (Below.refl _ _)):p:=h
section
variable {P:Program}{ops:Array Oper}{Q:Exit->Act->World->Prop}
def GO (P:Program)(ops:Array Oper)(Q:Exit->Act->World->Prop):Nat->Array Bool->Act->World->Prop
 |0,listed,a,W=>Region.ready .any ops listed=[]/\∀w,dy W w->Q .normal a w
 |fuel+1,listed,a,W=>∀w,dy W w->(Region.ready .any ops listed=[]->Q .normal a w)/\
  ∀i∈Region.ready .any ops listed,wpOp P ops Q i (fun a' w'=>dy w w'/\GO P ops Q fuel (listed.setIfInBounds i true) a' w') a w
theorem GO.world:∀{fuel:Nat}{listed:Array Bool}{a:Act}{W W':World},dy W W'->GO P ops Q fuel listed a W->GO P ops Q fuel listed a W'
 |0,_,_,_,_,hx,h=>⟨h.1,fun w hw=>h.2 w (ap hx hw)⟩
 |_+1,_,_,_,_,hx,h=>fun w hw=>h w (ap hx hw)
theorem GO.any:∀{fuel:Nat}{listed:Array Bool}{a:Act}{W:World},GO P ops Q fuel listed a W->wpAny P .any ops Q fuel listed a W
 |0,_,_,_,h=>⟨h.1,h.2 _ (Below.refl _ _)⟩
 |_+1,_,_,W,h=>⟨(h W (Below.refl _ _)).1,fun i hi=>wpOp_mono (fun _ _ h'=>GO.any h'.2) ((h W (Below.refl _ _)).2 i hi)⟩
def QY (P:Program)(ops:Array Oper)(W:World)(o:Oper)(v:Value)(a:Act):Prop:=
 (Region.wanted o (yielded ops a.tmps)=true/\∀w,dy W w->o.quietAt P a (dy w) w v)\/
 (Region.wanted o (yielded ops a.tmps)=false/\v=undef)
theorem QY.world {W W':World}{o:Oper}{v:Value}{a:Act}(hx:dy W W')(h:QY P ops W o v a):QY P ops W' o v a:=
 h.imp (fun⟨h1,h2⟩=>⟨h1,fun w hw=>h2 w (ap hx hw)⟩) id
theorem QY.of_same {W:World}{o:Oper}{v:Value}{a a':Act}(hy:QY P ops W o v a)(he:execOp a'.eval o=execOp a.eval o)
 (hw:Region.wanted o (yielded ops a'.tmps)=Region.wanted o (yielded ops a.tmps)):QY P ops W o v a':=by
 unfold QY Oper.quietAt at*;rw[he,hw];exact hy
theorem QY.wpOp {W:World}{i:Nat}{o:Oper}{v:Value}{a:Act}(hi:ops[i]? =some o)(hy:QY P ops W o v a){K:Act->World->Prop}{w:World}(hw:dy W w)(h:∀w',dy w w'->K (a.put o.dst v) w'):wpOp P ops Q i K a w:=by
 unfold Go.wpOp;simp only[hi];rcases hy with⟨CX,hv⟩|⟨CX,rfl⟩
 ·simp only[CX,if_true];left;exact Oper.wp_of_quiet (C:=dy w) (K:=fun a'=>a'=a.put o.dst v) (Below.refl _ _) (fun a' w' hw' ha=>ha ▸ h w' hw') ⟨v,fun w'' hw''=>by
   have:=hv w'' (ap hw hw'');unfold Oper.quietAt at*;generalize (execOp a.eval o).run P w''=r at*;cases r with
   |ok n u=>cases n<;>simp only[Oper.quietUpon]at this ⊢<;>first|exact this|exact⟨this.1,this.2.mono fun _ _ ⟨e1,e2⟩=>⟨e1,ap hw'' e2⟩⟩
   |halt x u=>simp only[Oper.quietUpon]at this,rfl⟩
 ·exact a4U
theorem Kg {W:World}{j:Nat}{oi oj:Oper}{v:Value}(hj:ops[j]? =some oj)(Jo:oi.apart ops oj=true)
 (F7:∀cs b,oi.op≠ .select cs b) (Tv:∀cs b,oj.op≠ .select cs b)
 (hQ:∀c a w,Q (.panic c) (a.put oi.dst v) w->Q (.panic c) a w) {K:Act->World->Prop}{a:Act}{w:World}
 (hy:QY P ops W oi v a) (h:wpOp P ops Q j K (a.put oi.dst v) w):
 wpOp P ops Q j (fun a' w'=>QY P ops W oi v a'/\K (a'.put oi.dst v) w') a w:=by
 obtain⟨h1,h2,h3⟩:=Oper.apart_spec Jo;have keep:∀(a:Act),QY P ops W oi v a->∀u,QY P ops W oi v (a.put oj.dst u):=fun a hy u=>
  hy.of_same (execOp_put oi F7 a oj.dst u h3) (wanted_put oi a oj.dst u h3)
 have keepD:∀d,QY P ops W oi v {a with defers:=d::a.defers}:=fun d=>hy.of_same rfl rfl;unfold wpOp at*;simp only[hj]at*;rw[wanted_put oj a oi.dst v h1]at h;split
 ·exact LE
 ·exact a2z
theorem M3 {i:Nat}{oi:Oper}{v:Value}(hi:ops[i]? =some oi)(FG:∀(j:Nat) (o:Oper) cs b,ops[j]? =some o->o.op≠ .select cs b)
 (hQ:∀c a w,Q (.panic c) (a.put oi.dst v) w->Q (.panic c) a w):
 ∀(fuel:Nat) (listed:Array Bool) (a:Act) (W:World),
  (∀j oj,ops[j]? =some oj->j≠i->listed.getD j true=false->(∀e∈oj.after,Region.binds .any e=true->e.on≠i)->oi.apart ops oj=true)->
  i∈Region.ready .any ops listed->QY P ops W oi v a->
  GO P ops Q fuel (listed.setIfInBounds i true) (a.put oi.dst v) W->GO P ops Q (fuel+1) listed a W:=by
 intro fuel;induction fuel with
 |zero=>
  intro listed a W _ hr hy H w hw;refine⟨fun h=>(by rw[h]at hr;cases hr),fun j hj=>?_⟩;by_cases kX:j=i
  ·exact a4r
  ·exact a3S
 |succ fuel ih=>
  intro listed a W vP hr hy H w hw;refine⟨fun h=>(by rw[h]at hr;cases hr),fun j hj=>?_⟩;by_cases kX:j=i
  ·exact a4r
  ·have h1:=(H w hw).2 j (ready_mono hj kX);obtain⟨FH,oj,Po,bO⟩:=mem_ready.1 hj;have Pp:∀e∈oj.after,Region.binds .any e=true->e.on≠i:=fun e he hb heq=>a2g
   have h2:=Kg Po (vP j oj Po kX FH Pp) (fun cs b=>FG i oi cs b hi) (fun cs b=>FG j oj cs b Po) hQ (hy.world hw) h1;have y9:∀k ok,ops[k]? =some ok->k≠i->(listed.setIfInBounds j true).getD k true=false->
    (∀e∈ok.after,Region.binds .any e=true->e.on≠i)->oi.apart ops ok=true:=fun k ok hk Pq Tw bQ=>by
    refine vP k ok hk Pq ?_ bQ;by_cases CY:j=k
    ·subst CY;exact FH
    ·exact a4x
   refine wpOp_mono (fun a' w' h3=>⟨h3.2.1,ih (listed.setIfInBounds j true) a' w' y9 (ready_mono hr (Ne.symm kX)) (h3.1.world h3.2.1) ?_⟩) h2;rw[Array.setIfInBounds_comm _ _ kX];exact h3.2.2
def kI (P:Program)(ops:Array Oper)(Q:Exit->Act->World->Prop):List Oper->Nat->Array Bool->Act->World->Prop
 |[],_,_,a,W=>∀w,dy W w->Q .normal a w
 |o::rest,k,listed,a,W=>
  (∃v,QY P ops W o v a/\kI P ops Q rest (k+1) (listed.setIfInBounds k true) (a.put o.dst v) W)\/
  (Region.ready .any ops listed=[k]/\Region.wanted o (yielded ops a.tmps)=true/\∀w,dy W w->o.wp P a w (fun a' w'=>dy w w'/\kI P ops Q rest (k+1) (listed.setIfInBounds k true) a' w') Q)
theorem uk (hs:Region.noSelect ops=true)(hQ:∀c a d v w,Q (.panic c) (a.put d v) w->Q (.panic c) a w):∀(l:List Oper) (k:Nat) (listed:Array Bool) (a:Act) (W:World),(∀j,l[j]? =ops[k+j]?)->
 Region.lexFrom .any ops l.length k listed=true->kI P ops Q l k listed a W->GO P ops Q l.length listed a W
 |[],_,_,_,_,_,hB,h=>⟨by simpa[Region.lexFrom]using hB,h⟩
 |o::l,k,listed,a,W,hl,hB,h=>by
  have h0:ops[k]? =some o:=by simpa using (hl 0).symm
  simp only[XC,Region.lexFrom,Xv]at hB;obtain⟨⟨hr,hf⟩,hB'⟩:=hB;have hl':∀j,l[j]? =ops[k+1+j]? :=fun j=>by have:=hl (j+1);simpa[ZI,Nat.add_comm 1 j]using this
  rcases h with⟨v,hy,hK⟩|⟨eO,CX,hK⟩
  ·exact M3 h0 (Region.noSelect_spec hs) (fun c a w=>hQ c a _ _ w) l.length listed a W (Region.free_spec h0 hf) (by simpa using hr) hy (uk hs hQ l (k+1) _ _ _ hl' hB' hK)
  ·intro w hw;refine⟨fun h=>by rw[eO]at h;simp at h,fun i hi=>?_⟩;rw[eO]at hi;obtain rfl:i=k:=by simpa using hi
   unfold wpOp;simp only[h0,CX,if_true];left;exact Oper.wp_mono (fun a' w' h'=>⟨h'.1,uk hs hQ l (i+1) _ _ _ hl' hB' h'.2⟩) (hK w hw)
theorem ri {id:Nat}{a:Act}{w:World}{l:List Oper}(hm:P.follows .mixedOrders=true)(hB:Region.lexB .any l.toArray=true)(hQ:∀c a d v w,Q (.panic c) (a.put d v) w->Q (.panic c) a w)
 (h:kI P l.toArray Q l 0 (Y1 l.length false) a w):(Code.region id l.toArray true).wp P Q a w:=by
 simp only[Region.lexB,Xv]at hB;refine wp_region_any hm ?_;have h2:=uk hB.1 hQ l 0 (Y1 l.length false) a w ak (by simpa using hB.2) h;have h3:=(h2.world ((Below.refl _ _).drew:dy w w.drew)).any;simpa using h3
section
variable {o:Oper}{rest:List Oper}{k:Nat}{listed:Array Bool}{a:Act}{W:World}
theorem dO (h:∀w,dy W w->Q .normal a w):kI P ops Q [] k listed a W:=h
theorem xC (hw:Region.wanted o (yielded ops a.tmps)=false)(hn:kI P ops Q rest (k+1) (listed.setIfInBounds k true) (a.put o.dst undef) W):kI P ops Q (o::rest) k listed a W:=
 .inl ⟨undef,.inr ⟨hw,rfl⟩,hn⟩
theorem fp {j d:Nat}{v:Value}(hg:o.guard=some (j,true))(hd:(ops[j]?).bind (·.dst)=some d)(hv:a.tmps.toList[d]? =some v)(hb:v= .bool false)(hn:kI P ops Q rest (k+1) (listed.setIfInBounds k true) (a.put o.dst undef) W):kI P ops Q (o::rest) k listed a W:=
 xC (by simp[Region.wanted,hg,gX hd hv hb]) hn
theorem fq {j d:Nat}{v:Value}(hg:o.guard=some (j,false))(hd:(ops[j]?).bind (·.dst)=some d)(hv:a.tmps.toList[d]? =some v)(hb:v= .bool true)(hn:kI P ops Q rest (k+1) (listed.setIfInBounds k true) (a.put o.dst undef) W):kI P ops Q (o::rest) k listed a W:=
 xC (by simp[Region.wanted,hg,gX hd hv hb]) hn
theorem ft {j d:Nat}{v:Value}{b:Bool}(hg:o.guard=some (j,b))(hd:(ops[j]?).bind (·.dst)=some d)(hv:a.tmps.toList[d]? =some v)(hb:v=undef)(hn:kI P ops Q rest (k+1) (listed.setIfInBounds k true) (a.put o.dst undef) W):kI P ops Q (o::rest) k listed a W:=
 xC (by simp[Region.wanted,hg,oa hd hv hb]) hn
theorem iN {v:Value}(hw:Region.wanted o (yielded ops a.tmps)=true)(h:∀w,dy W w->∀R:Value->Prop,R v->VG P w w R ((execOp a.eval o).run P w))
 (hn:kI P ops Q rest (k+1) (listed.setIfInBounds k true) (a.put o.dst v) W):kI P ops Q (o::rest) k listed a W:=
 .inl ⟨v,.inl ⟨hw,fun w hw=>t9 (h w hw)⟩,hn⟩
theorem j9 (hr:Region.ready .any ops listed=[k])(hw:Region.wanted o (yielded ops a.tmps)=true)
 (h:∀w,dy W w->∀K:Act->World->Prop,(∀a' w',dy w w'->kI P ops Q rest (k+1) (listed.setIfInBounds k true) a' w'->K a' w')->o.wp P a w K Q):kI P ops Q (o::rest) k listed a W:=
 .inr ⟨hr,hw,fun w hw=>h w hw _ fun _ _ h1 h2=>⟨h1,h2⟩⟩
end
theorem pq {f:FuncId}{args:Array Value}{w:World}{R:Value->Prop}{v:Value}(h:Calls P f args w fun e w'=>e= .returned v/\dy w w')(hR:R v):Calls P f args w (DX w R):=
 h.mono fun _ _ ⟨he,hx⟩=>⟨⟨v,he,hR⟩,hx⟩
theorem rj {f:FuncId}{args:Array Value}{w:World}{R:Value->Prop}{v:Value}(h:Calls P f args w fun e w'=>e= .returned v/\w=w')(hR:R v):Calls P f args w (DX w R):=
 h.mono fun _ _ ⟨he,hx⟩=>⟨⟨v,he,hR⟩,hx ▸ Below.refl _ _⟩
end
structure Hm (Q:Prop):Prop where
 out:Q
theorem PW {Q P:Prop}(q:Q)(h:Hm Q->P:=by
 intro q;refine ri aK aK (fun _ _ d _ _ h=>by cases d<;>exact h) ?_;repeat(first|((first|refine fp rfl rfl rfl cY ?_|refine fq rfl rfl rfl cY ?_|refine ft rfl rfl rfl cY ?_);simp only[Act.put,XQ,XT,X2])|(apply iN;(first|exact dQ rfl|exact eE rfl rfl rfl cY);intro wq jN R hR;((have mV:=(aX jN).1;(try simp only[Xt,ae,Xy,Xu]at mV));go_simp;first|exact hR|(fail));simp only[Act.put,XQ,XT,X2]))
 exact q.out):P:=h ⟨q⟩
section
open Go.Proofs
def pt (a l b m:Int):Bool:=bC a l&&bC b m&&decide (m<=l)&&(a - a % eV m==b)
theorem lN (a l b m:Int)(w:World):
 Calls prog 43 #[.agg #[.int .i64 a,.int .i64 l],.agg #[.int .i64 b,.int .i64 m]] w fun e w'=>e= .returned (.bool (pt a l b m))/\dy w w':=by
 cases hA:(bC a l&&bC b m)
 case false=>
  have hs:pt a l b m=false:=by simp[pt,hA]
  rw[hs];have hv:=Xi hA;clear hA hs;go_enter func43,ntmps43
  go_wp2_with fail
  refine PW ?_;refine j9 aK (by first|exact dQ rfl|exact eE rfl rfl rfl cY) (fun w1 co K hK=>?_);obtain⟨ci,cn⟩:=aX co;have cp:=bv co;(try simp only[Xt,ae,Xy,Xu]at ci cn cp)
  (try have l0w1:w.heap.size<=w1.heap.size:=by omega)
  (try have l1w1:w.heap.size < w1.heap.size:=by omega)
  (try have l2w1:w.heap.size+1 < w1.heap.size:=by omega)
  go_simp
  refine hK _ _ (Bel.bel (B:=_) ?_) ?_
  ·exact eA
  clear hK K;repeat(first|((first|refine fp rfl rfl rfl cY ?_|refine fq rfl rfl rfl cY ?_|refine ft rfl rfl rfl cY ?_);simp only[Act.put,XQ,XT,X2])|(apply iN;(first|exact dQ rfl|exact eE rfl rfl rfl cY);intro wq jN R hR;((have mV:=(aX jN).1;(try simp only[Xt,ae,Xy,Xu]at mV));go_simp;first|exact hR|((go_at_call 48;refine pq (GH a l b m _ hv.out ?_ ?_ ?_ ?_) hR;go_simp;go_simp;go_simp;go_simp)));simp only[Act.put,XQ,XT,X2]))
  refine dO ?_;intro w2 cM;obtain⟨dV,dH⟩:=aX cM;have dW:=bv cM;(try simp only[Xt,ae,Xy,Xu]at dV dH dW)
  go_wp2_with fail
  go_ret
  refine⟨rfl,Bel.bel (B:=_) ?_⟩;exact eA
 case true=>
  have hA':=hA;simp only[Xv]at hA';obtain⟨g1,g2,g3,g4,-⟩:=dR hA'.1;obtain⟨k1,k2,k3,k4,-⟩:=dR hA'.2;obtain⟨z1,z2⟩:=re m k1;have hv:=Xi hA;by_cases hm:m<=l
  ·have hs:pt a l b m=(a - a % eV m==b):=by simp[pt,hA,hm]
   rw[hs];have han:=xB a m g3 g4 k1;have hmI:decide (m<=l)=true:=by simp[hm]
   clear hA hA' hs hm;cases hE:(a - a % eV m==b);all_goals
    go_enter func43,ntmps43
    go_wp2_with fail
    refine PW ?_;refine j9 aK (by first|exact dQ rfl|exact eE rfl rfl rfl cY) (fun w1 co K hK=>?_);obtain⟨ci,cn⟩:=aX co;have cp:=bv co;(try simp only[Xt,ae,Xy,Xu]at ci cn cp)
    (try have l0w1:w.heap.size<=w1.heap.size:=by omega)
    (try have l1w1:w.heap.size < w1.heap.size:=by omega)
    (try have l2w1:w.heap.size+1 < w1.heap.size:=by omega)
    go_simp
    refine hK _ _ (Bel.bel (B:=_) ?_) ?_
    ·exact eA
    clear hK K;repeat(first|((first|refine fp rfl rfl rfl cY ?_|refine fq rfl rfl rfl cY ?_|refine ft rfl rfl rfl cY ?_);simp only[Act.put,XQ,XT,X2])|(apply iN;(first|exact dQ rfl|exact eE rfl rfl rfl cY);intro wq jN R hR;((have mV:=(aX jN).1;(try simp only[Xt,ae,Xy,Xu]at mV));go_simp;first|exact hR|(first|(go_at_call 48;refine pq (GH a l b m _ hv.out ?_ ?_ ?_ ?_) hR;go_simp;go_simp;go_simp;go_simp)|(go_at_call 49;exact rj (pn _ _ k1 k2) hR)));simp only[Act.put,XQ,XT,X2]))
    refine dO ?_;intro w2 cM;obtain⟨dV,dH⟩:=aX cM;have dW:=bv cM;(try simp only[Xt,ae,Xy,Xu]at dV dH dW)
    go_wp2_with fail
    go_ret
    refine⟨rfl,Bel.bel (B:=_) ?_⟩;exact eA
  ·have hs:pt a l b m=false:=by simp[pt,hA,hm]
   rw[hs];have hmI:decide (m<=l)=false:=by simp[hm]
   clear hA hA' hs hm;go_enter func43,ntmps43
   go_wp2_with fail
   refine PW ?_;refine j9 aK (by first|exact dQ rfl|exact eE rfl rfl rfl cY) (fun w1 co K hK=>?_);obtain⟨ci,cn⟩:=aX co;have cp:=bv co;(try simp only[Xt,ae,Xy,Xu]at ci cn cp)
   (try have l0w1:w.heap.size<=w1.heap.size:=by omega)
   (try have l1w1:w.heap.size < w1.heap.size:=by omega)
   (try have l2w1:w.heap.size+1 < w1.heap.size:=by omega)
   go_simp
   refine hK _ _ (Bel.bel (B:=_) ?_) ?_
   ·exact eA
   clear hK K;repeat(first|((first|refine fp rfl rfl rfl cY ?_|refine fq rfl rfl rfl cY ?_|refine ft rfl rfl rfl cY ?_);simp only[Act.put,XQ,XT,X2])|(apply iN;(first|exact dQ rfl|exact eE rfl rfl rfl cY);intro wq jN R hR;((have mV:=(aX jN).1;(try simp only[Xt,ae,Xy,Xu]at mV));go_simp;first|exact hR|((go_at_call 48;refine pq (GH a l b m _ hv.out ?_ ?_ ?_ ?_) hR;go_simp;go_simp;go_simp;go_simp)));simp only[Act.put,XQ,XT,X2]))
   refine dO ?_;intro w2 cM;obtain⟨dV,dH⟩:=aX cM;have dW:=bv cM;(try simp only[Xt,ae,Xy,Xu]at dV dH dW)
   go_wp2_with fail
   go_ret
   refine⟨rfl,Bel.bel (B:=_) ?_⟩;exact eA
end
section
open Go.Proofs
def mF (a l x:Int):Bool:=bC a l&&(decide (0<=x)&&(decide (x<=65535)&&(x - x % eV l==a)))
theorem Kh (a l x:Int)(w:World):
 Calls prog 25 #[.agg #[.int .i64 a,.int .i64 l],.int .i64 x] w fun e w'=>e= .returned (.bool (mF a l x))/\dy w w':=by
 cases hA:bC a l
 case false=>
  have hs:mF a l x=false:=by simp[mF,hA]
  rw[hs];have hv:=Xi hA;clear hA hs;go_enter func25,ntmps25
  go_wp2_with fail
  refine PW ?_;refine j9 aK (by first|exact dQ rfl|exact eE rfl rfl rfl cY) (fun w1 co K hK=>?_);obtain⟨ci,cn⟩:=aX co;have cp:=bv co;(try simp only[Xt,ae,Xy,Xu]at ci cn cp)
  (try have l0w1:w.heap.size<=w1.heap.size:=by omega)
  (try have l1w1:w.heap.size < w1.heap.size:=by omega)
  (try have l2w1:w.heap.size+1 < w1.heap.size:=by omega)
  go_simp
  refine hK _ _ (Bel.bel (B:=_) ?_) ?_
  ·exact eA
  clear hK K;repeat(first|((first|refine fp rfl rfl rfl cY ?_|refine fq rfl rfl rfl cY ?_|refine ft rfl rfl rfl cY ?_);simp only[Act.put,XQ,XT,X2])|(apply iN;(first|exact dQ rfl|exact eE rfl rfl rfl cY);intro wq jN R hR;((have mV:=(aX jN).1;(try simp only[Xt,ae,Xy,Xu]at mV));go_simp;first|exact hR|((go_at_call 48;refine pq (uj a l _ hv.out ?_ ?_) hR;go_simp;go_simp)));simp only[Act.put,XQ,XT,X2]))
  refine dO ?_;intro w2 cM;obtain⟨dV,dH⟩:=aX cM;have dW:=bv cM;(try simp only[Xt,ae,Xy,Xu]at dV dH dW)
  go_wp2_with fail
  go_ret
  refine⟨rfl,Bel.bel (B:=_) ?_⟩;exact eA
 case true=>
  obtain⟨g1,g2,g3,g4,-⟩:=dR hA;obtain⟨z1,z2⟩:=re l g1;have hv:=Xi hA;by_cases h0:0<=x
  ·by_cases h1:x<=65535
   ·have hs:mF a l x=(x - x % eV l==a):=by simp[mF,hA,h0,h1]
    rw[hs];have han:=xB x l h0 h1 g1;have h0I:decide (0<=x)=true:=by simp[h0]
    have h1I:decide (x<=65535)=true:=by simp[h1]
    clear hA hs;cases hE:(x - x % eV l==a);all_goals
     go_enter func25,ntmps25
     go_wp2_with fail
     refine PW ?_;refine j9 aK (by first|exact dQ rfl|exact eE rfl rfl rfl cY) (fun w1 co K hK=>?_);obtain⟨ci,cn⟩:=aX co;have cp:=bv co;(try simp only[Xt,ae,Xy,Xu]at ci cn cp)
     (try have l0w1:w.heap.size<=w1.heap.size:=by omega)
     (try have l1w1:w.heap.size < w1.heap.size:=by omega)
     (try have l2w1:w.heap.size+1 < w1.heap.size:=by omega)
     go_simp
     refine hK _ _ (Bel.bel (B:=_) ?_) ?_
     ·exact eA
     clear hK K;repeat(first|((first|refine fp rfl rfl rfl cY ?_|refine fq rfl rfl rfl cY ?_|refine ft rfl rfl rfl cY ?_);simp only[Act.put,XQ,XT,X2])|(apply iN;(first|exact dQ rfl|exact eE rfl rfl rfl cY);intro wq jN R hR;((have mV:=(aX jN).1;(try simp only[Xt,ae,Xy,Xu]at mV));go_simp;first|exact hR|(first|(go_at_call 48;refine pq (uj a l _ hv.out ?_ ?_) hR;go_simp;go_simp)|(go_at_call 49;exact rj (pn _ _ g1 g2) hR)));simp only[Act.put,XQ,XT,X2]))
     refine dO ?_;intro w2 cM;obtain⟨dV,dH⟩:=aX cM;have dW:=bv cM;(try simp only[Xt,ae,Xy,Xu]at dV dH dW)
     go_wp2_with fail
     go_ret
     refine⟨rfl,Bel.bel (B:=_) ?_⟩;exact eA
   ·have hs:mF a l x=false:=by simp[mF,h1]
    rw[hs];have h0I:decide (0<=x)=true:=by simp[h0]
    have h1I:decide (x<=65535)=false:=by simp[h1]
    clear hA hs h1;go_enter func25,ntmps25
    go_wp2_with fail
    refine PW ?_;refine j9 aK (by first|exact dQ rfl|exact eE rfl rfl rfl cY) (fun w1 co K hK=>?_);obtain⟨ci,cn⟩:=aX co;have cp:=bv co;(try simp only[Xt,ae,Xy,Xu]at ci cn cp)
    (try have l0w1:w.heap.size<=w1.heap.size:=by omega)
    (try have l1w1:w.heap.size < w1.heap.size:=by omega)
    (try have l2w1:w.heap.size+1 < w1.heap.size:=by omega)
    go_simp
    refine hK _ _ (Bel.bel (B:=_) ?_) ?_
    ·exact eA
    clear hK K;repeat(first|((first|refine fp rfl rfl rfl cY ?_|refine fq rfl rfl rfl cY ?_|refine ft rfl rfl rfl cY ?_);simp only[Act.put,XQ,XT,X2])|(apply iN;(first|exact dQ rfl|exact eE rfl rfl rfl cY);intro wq jN R hR;((have mV:=(aX jN).1;(try simp only[Xt,ae,Xy,Xu]at mV));go_simp;first|exact hR|((go_at_call 48;refine pq (uj a l _ hv.out ?_ ?_) hR;go_simp;go_simp)));simp only[Act.put,XQ,XT,X2]))
    refine dO ?_;intro w2 cM;obtain⟨dV,dH⟩:=aX cM;have dW:=bv cM;(try simp only[Xt,ae,Xy,Xu]at dV dH dW)
    go_wp2_with fail
    go_ret
    refine⟨rfl,Bel.bel (B:=_) ?_⟩;exact eA
  ·have hs:mF a l x=false:=by simp[mF,h0]
   rw[hs];have h0I:decide (0<=x)=false:=by simp[h0]
   clear hA hs h0;go_enter func25,ntmps25
   go_wp2_with fail
   refine PW ?_;refine j9 aK (by first|exact dQ rfl|exact eE rfl rfl rfl cY) (fun w1 co K hK=>?_);obtain⟨ci,cn⟩:=aX co;have cp:=bv co;(try simp only[Xt,ae,Xy,Xu]at ci cn cp)
   (try have l0w1:w.heap.size<=w1.heap.size:=by omega)
   (try have l1w1:w.heap.size < w1.heap.size:=by omega)
   (try have l2w1:w.heap.size+1 < w1.heap.size:=by omega)
   go_simp
   refine hK _ _ (Bel.bel (B:=_) ?_) ?_
   ·exact eA
   clear hK K;repeat(first|((first|refine fp rfl rfl rfl cY ?_|refine fq rfl rfl rfl cY ?_|refine ft rfl rfl rfl cY ?_);simp only[Act.put,XQ,XT,X2])|(apply iN;(first|exact dQ rfl|exact eE rfl rfl rfl cY);intro wq jN R hR;((have mV:=(aX jN).1;(try simp only[Xt,ae,Xy,Xu]at mV));go_simp;first|exact hR|((go_at_call 48;refine pq (uj a l _ hv.out ?_ ?_) hR;go_simp;go_simp)));simp only[Act.put,XQ,XT,X2]))
   refine dO ?_;intro w2 cM;obtain⟨dV,dH⟩:=aX cM;have dW:=bv cM;(try simp only[Xt,ae,Xy,Xu]at dV dH dW)
   go_wp2_with fail
   go_ret
   refine⟨rfl,Bel.bel (B:=_) ?_⟩;exact eA
def In (a l b m:Int):Bool:=pt a l b m||pt b m a l
theorem AX (a l b m:Int)(w:World):
 Calls prog 19 #[.agg #[.int .i64 a,.int .i64 l],.agg #[.int .i64 b,.int .i64 m]] w fun e w'=>e= .returned (.bool (In a l b m))/\dy w w':=by
 unfold In;cases hA:pt a l b m
 case true=>
  have hc:=lN a l b m;rw[hA]at hc;replace hc:=Xi hc;clear hA;go_enter func19,ntmps19
  go_wp2_with fail
  refine(hc.out _).mono ?_;rintro e w1 ⟨rfl,co⟩;obtain⟨ci,cn⟩:=aX co;have cp:=bv co;(try simp only[Xt,ae,Xy,Xu]at ci cn cp)
  go_wp2_with fail
  go_ret
  refine⟨rfl,Bel.bel (B:=_) ?_⟩;exact eA
 case false=>
  have hc:=lN a l b m;rw[hA]at hc;replace hc:=Xi hc;clear hA;obtain⟨r,hr⟩:∃r,r=pt b m a l:=⟨_,rfl⟩;have hd:=lN b m a l;rw[<-hr]at hd ⊢;clear hr;replace hd:=Xi hd;go_enter func19,ntmps19
  go_wp2_with fail
  refine(hc.out _).mono ?_;rintro e w1 ⟨rfl,co⟩;obtain⟨ci,cn⟩:=aX co;have cp:=bv co;(try simp only[Xt,ae,Xy,Xu]at ci cn cp)
  go_wp2_with fail
  refine(hd.out _).mono ?_;rintro e w2 ⟨rfl,cM⟩;obtain⟨dV,dH⟩:=aX cM;have dW:=bv cM;(try simp only[Xt,ae,Xy,Xu]at dV dH dW)
  go_wp2_with fail
  go_ret
  refine⟨rfl,Bel.bel (B:=_) ?_⟩;exact eA
end
theorem sE [Flo](p:Pfx):ai prog 114 [.agg (aS p)] (.v (.int .i64 (chk p.at_ p.len))):=fm (cS func114 aK rfl) (by intro d hd;simp at hd;(repeat(first|(obtain rfl:=hd;rfl)|(rcases hd with rfl|hd; · rfl)))) rfl rfl (fun w=>qc _ _ _)
theorem Ua [Flo](p:Pfx):ai prog 176 [.agg (aS p)] (.v (.int .i64 (vj p.at_ p.len))):=fm (cS func176 aK rfl) (by intro d hd;simp at hd;(repeat(first|(obtain rfl:=hd;rfl)|(rcases hd with rfl|hd; · rfl)))) rfl rfl (fun w=>Eg _ _ _)
theorem Eh [Flo](p q:Pfx):ai prog 43 [.agg (aS p),.agg (aS q)] (.v (.bool (pt p.at_ p.len q.at_ q.len))):=fm (cS func43 aK rfl) (by intro d hd;simp at hd;(repeat(first|(obtain rfl:=hd;rfl)|(rcases hd with rfl|hd; · rfl)))) rfl rfl (fun w=>lN _ _ _ _ _)
theorem qd [Flo](p q:Pfx):ai prog 19 [.agg (aS p),.agg (aS q)] (.v (.bool (In p.at_ p.len q.at_ q.len))):=fm (cS func19 aK rfl) (by intro d hd;simp at hd;(repeat(first|(obtain rfl:=hd;rfl)|(rcases hd with rfl|hd; · rfl)))) rfl rfl (fun w=>AX _ _ _ _ _)
theorem xD [Flo](p:Pfx):ai prog 189 [.agg (aS p)] (.v (.bool (bC p.at_ p.len))):=fm (cS func189 aK rfl) (by intro d hd;simp at hd;(repeat(first|(obtain rfl:=hd;rfl)|(rcases hd with rfl|hd; · rfl)))) rfl rfl (fun w=>rg _ _ _)
theorem M4 [Flo](p:Pfx)(h:bC p.at_ p.len=true):ai prog 190 [.agg (aS p)] (.v (.int .i64 (lL p.at_ p.len))):=fm (cS func190 aK rfl) (by intro d hd;simp at hd;(repeat(first|(obtain rfl:=hd;rfl)|(rcases hd with rfl|hd; · rfl)))) rfl rfl (fun w=>sx _ _ _ h)
theorem Ki [Flo](p:Pfx)(x:Int):ai prog 224 [.agg (aS p),.v (.int .i64 x)] (.v (.bool (lM p.at_ p.len x))):=fm (cS func224 aK rfl) (by intro d hd;simp at hd;(repeat(first|(obtain rfl:=hd;rfl)|(rcases hd with rfl|hd; · rfl)))) rfl rfl (fun w=>vh _ _ _ _)
theorem xE [Flo](p q:Pfx):ai prog 169 [.agg (aS p),.agg (aS q)] (.v (.bool (zJ p.at_ p.len q.at_ q.len))):=fm (cS func169 aK rfl) (by intro d hd;simp at hd;(repeat(first|(obtain rfl:=hd;rfl)|(rcases hd with rfl|hd; · rfl)))) rfl rfl (fun w=>sy _ _ _ _ _)
theorem rl [Flo](p q:Pfx):ai prog 106 [.agg (aS p),.agg (aS q)] (.v (.bool (oL p.at_ p.len q.at_ q.len))):=fm (cS func106 aK rfl) (by intro d hd;simp at hd;(repeat(first|(obtain rfl:=hd;rfl)|(rcases hd with rfl|hd; · rfl)))) rfl rfl (fun w=>sD _ _ _ _ _)
section
open Go.Proofs
def Pfx.meets (p q:Pfx):Bool:=In p.at_ p.len q.at_ q.len
def Pfx.low (p:Pfx):Pfx:=⟨p.at_,p.len+1⟩
def Pfx.high (p:Pfx):Pfx:=⟨p.at_+eV (p.len+1),p.len+1⟩
def Pfx.right (p:Pfx):Bool:=bC p.at_ p.len
def Pfx.v (p:Pfx):Value:= .agg #[.int .i64 p.at_,.int .i64 p.len]
theorem pu {a l:Int}(h0:0<=l)(h1:l<=16)(h2:0<=a)(h3:a<=65535)(h4:a % eV l=0):bC a l=true:=by
 unfold bC;rw[Gz h0 h1 h2 h3];unfold eV at h4;simp[h4]
theorem sF {l:Int}(h0:0<=l)(h1:l < 16):eV l=2*eV (l+1):=by
 unfold eV;have:(16 - l).toNat=(16 - (l+1)).toNat+1:=aa;rw[this,Int.pow_succ];omega
theorem oq {l m:Int}(h0:0<=m)(h1:m<=l)(h2:l<=16):∃k:Int,eV m=eV l*k/\1<=k:=by
 refine⟨2 ^ (l - m).toNat,?_,?_⟩
 ·unfold eV;rw[<-Int.pow_add];congr 1;omega
 ·have h3:=_i (n:=(l - m).toNat);have h4:((2 ^ (l - m).toNat:Nat):Int)=(2:Int) ^ (l - m).toNat:=ak;omega
theorem AY {a l:Int}(h:bC a l=true):a+eV l<=65536:=by
 obtain⟨g1,g2,g3,g4,g5⟩:=dR h;obtain⟨k,hk,qs⟩:=oq (ZJ 0) g1 g2;have h0:eV 0=65536:=zr;rw[h0]at hk;have hs:=fG g1;have hd:eV l ∣ 65536 - a:=by
  refine Int.dvd_sub ⟨k,hk⟩ (YH g5)
 have:=Int.le_of_dvd aa hd;omega
def dS (p q:Pfx):Bool:=pt p.at_ p.len q.at_ q.len
def Pfx.hi (p:Pfx):Int:=p.at_+eV p.len
theorem Pfx.bd {p:Pfx}(h:p.right=true):0<=p.len/\p.len<=16/\0<=p.at_/\p.at_<=65535/\p.at_ % eV p.len=0:=dR h
theorem Pfx.hi_bd {p:Pfx}(h:p.right=true):p.at_ < p.hi/\p.hi<=65536:=by
 have h1:=AY h;obtain⟨g1,-⟩:=p.bd h;have h2:=fG g1;unfold Pfx.hi;omega
theorem wu {s a b:Int}(hs:0 < s)(hb:b % s=0):a - a % s=b↔b<=a/\a < b+s:=by
 have h1:=Int.emod_nonneg a (b:=s) aa;have h2:=Int.emod_lt_of_pos a hs;constructor
 ·intro h;omega
 ·intro⟨h3,h4⟩;have h5:(a - b) % s=a % s:=by rw[Int.sub_emod,hb,Int.sub_zero,Int.emod_emod]
  rw[Int.emod_eq_of_lt aa aa]at h5;omega
theorem sG {s x:Int}(hs:0 < s)(hx:0 < x)(hd:s ∣ x):s<=x:=Int.le_of_dvd hx hd
theorem Ub {p q:Pfx}(hp:p.right=true)(hq:q.right=true)(hl:q.len<=p.len)(h1:p.at_ < q.hi)(h2:q.at_ < p.hi):q.at_<=p.at_/\p.hi<=q.hi:=by
 obtain⟨a1,a2,a3,a4,a5⟩:=p.bd hp;obtain⟨b1,b2,b3,b4,b5⟩:=q.bd hq;obtain⟨k,hk,qs⟩:=oq b1 hl a2;have s1:=fG a1;have s2:=fG b1;unfold Pfx.hi at*;have dq:eV p.len ∣ q.at_:=N' ⟨k,hk⟩ (YH b5);have dp:eV p.len ∣ p.at_:=YH a5;have dm:eV p.len ∣ eV q.len:=⟨k,hk⟩;refine⟨?_,?_⟩
 ·rcases H' p.at_ q.at_ with h|h
  ·have:=sG aa (show 0 < q.at_ - p.at_ by omega) (Int.dvd_sub dq dp);omega
  ·exact h
 ·have:=sG aa (show 0 < q.at_+eV q.len - p.at_ by omega) (Int.dvd_sub (Int.dvd_add dq dm) dp);omega
theorem fH {p q:Pfx}:dS p q=true↔p.right=true/\q.right=true/\q.len<=p.len/\q.at_<=p.at_/\p.at_ < q.hi:=by
 unfold dS pt Pfx.right;constructor
 ·intro h;simp only[Xv,decide_eq_true_eq,beq_iff_eq]at h;obtain⟨⟨⟨h1,h2⟩,h3⟩,h4⟩:=h;obtain⟨b1,b2,b3,b4,b5⟩:=dR h2;have:=(wu (by have:=fG b1;omega) b5).1 h4;exact⟨h1,h2,h3,this.1,this.2⟩
 ·intro⟨h1,h2,h3,h4,h5⟩;obtain⟨b1,b2,b3,b4,b5⟩:=dR h2;simp only[Xv,decide_eq_true_eq,beq_iff_eq];exact⟨⟨⟨h1,h2⟩,h3⟩,(wu (by have:=fG b1;omega) b5).2 ⟨h4,h5⟩⟩
theorem Io {s k:Int}(hs:0<=s)(hk:1<=k):s<=s*k:=by
 have:=Int.mul_le_mul_of_nonneg_left hk hs;rwa [Int.mul_one]at this
theorem Uc {l m:Int}(h0:0<=m)(h2:l<=16)(h3:0<=l)(hm:m<=16):eV l<=eV m↔m<=l:=by
 constructor
 ·intro h;rcases H' l m with hlt|hle
  ·obtain⟨k,hk,qs⟩:=oq (l:=m) (m:=l+1) aa aa hm;have e:=sF h3 aa;have s1:=fG h0;have:eV m<=eV (l+1):=by rw[hk];exact Io (by have:=fG (n:=l+1) aa;omega) qs
   omega
  ·exact hle
 ·intro h;obtain⟨k,hk,qs⟩:=oq h0 h h2;rw[hk];exact Io (by have:=fG h3;omega) qs
theorem cr {p q:Pfx}:dS p q=true↔p.right=true/\q.right=true/\q.at_<=p.at_/\p.hi<=q.hi:=by
 rw[fH];constructor
 ·intro⟨h1,h2,h3,h4,h5⟩;exact⟨h1,h2,Ub h1 h2 h3 h5 (by have:=p.hi_bd h1;omega)⟩
 ·intro⟨h1,h2,h3,h4⟩;have hp:=p.hi_bd h1;obtain⟨a1,a2,-⟩:=p.bd h1;obtain⟨b1,b2,-⟩:=q.bd h2;exact⟨h1,h2,(Uc b1 a2 a1 b2).1 (by unfold Pfx.hi at*;omega),h3,by omega⟩
theorem wv (p q:Pfx):zJ p.at_ p.len q.at_ q.len=dS p q:=by
 rw[Yi,cr];unfold zJ lM fV lL Pfx.right Pfx.hi;simp only[Xv,decide_eq_true_eq];constructor
 ·intro⟨⟨⟨h1,h2⟩,h3⟩,h4⟩;exact⟨h1,h2,h3.2.1,by omega⟩
 ·intro⟨h1,h2,h3,h4⟩;obtain⟨a1,-⟩:=dR h1;have s1:=fG a1;exact⟨⟨⟨h1,h2⟩,⟨h2,h3,by omega⟩⟩,⟨h2,by omega,by omega⟩⟩
theorem dY {p q:Pfx}:p.meets q=true↔p.right=true/\q.right=true/\p.at_ < q.hi/\q.at_ < p.hi:=by
 have e:p.meets q=(dS p q||dS q p):=rfl;rw[e,Bool.or_eq_true,fH,fH];constructor
 ·rintro (⟨h1,h2,h3,h4,h5⟩|⟨h1,h2,h3,h4,h5⟩)
  ·exact⟨h1,h2,h5,by have:=p.hi_bd h1;omega⟩
  ·exact⟨h2,h1,by have:=q.hi_bd h1;omega,h5⟩
 ·intro⟨h1,h2,h3,h4⟩;rcases Int.le_total q.len p.len with hl|hl
  ·exact .inl ⟨h1,h2,hl,(Ub h1 h2 hl h3 h4).1,h3⟩
  ·exact .inr ⟨h2,h1,hl,(Ub h2 h1 hl h4 h3).1,h4⟩
theorem fI (p q:Pfx):oL p.at_ p.len q.at_ q.len=p.meets q:=by
 rw[Yi,dY];unfold oL lL Pfx.right Pfx.hi;simp only[Xv,decide_eq_true_eq];constructor
 ·intro⟨⟨⟨h1,h2⟩,h3⟩,h4⟩;exact⟨h1,h2,by omega,by omega⟩
 ·intro⟨h1,h2,h3,h4⟩;exact⟨⟨⟨h1,h2⟩,by omega⟩,by omega⟩
theorem rm (p q:Pfx):p.meets q=q.meets p:=by
 rw[Yi,dY,dY];constructor<;>(intro⟨h1,h2,h3,h4⟩;exact⟨h2,h1,h4,h3⟩)
theorem nu {p:Pfx}{x:Int}:lM p.at_ p.len x=true↔p.right=true/\p.at_<=x/\x < p.hi:=by
 unfold lM fV lL Pfx.right Pfx.hi;simp only[Xv,decide_eq_true_eq];constructor
 ·intro⟨h1,h2,h3⟩;exact⟨h1,h2,by omega⟩
 ·intro⟨h1,h2,h3⟩;exact⟨h1,h2,by omega⟩
theorem px (p:Pfx)(x:Int):mF p.at_ p.len x=lM p.at_ p.len x:=by
 rw[Yi,nu];unfold mF Pfx.right;simp only[Xv,decide_eq_true_eq,beq_iff_eq];constructor
 ·intro⟨h1,h2,h3,h4⟩;obtain⟨b1,b2,b3,b4,b5⟩:=dR h1;have:=(wu (by have:=fG b1;omega) b5).1 h4;exact⟨h1,this.1,this.2⟩
 ·intro⟨h1,h2,h3⟩;obtain⟨b1,b2,b3,b4,b5⟩:=dR h1;have hf:=p.hi_bd h1;exact⟨h1,by omega,by omega,(wu (by have:=fG b1;omega) b5).2 ⟨h2,h3⟩⟩
theorem vl {a l:Int}(h:bC a l=true):vj a l=eV l:=by unfold vj;rw[ah h]
end
theorem Id {p:Prop}(h:p:=by
 rintro m e h ⟨k,qs,bD,hm,rfl,rfl⟩ CL nR;by_cases hlt:k < l.length
 ·obtain⟨x,hx⟩:∃x,l[k - 1]? =some x:=⟨_,Xj aa⟩;obtain⟨y,hy⟩:∃y,l[k]? =some y:=⟨_,Xj hlt⟩;have fy:(k:Int) < (l.length:Int):=aa;have cX:=wi k aa;have CZ:IntKind.i64.wrap ((k:Int) - 1)=((k - 1:Nat):Int):=by rw[IntKind.wrap_i64];omega
  have hlx:=cU x;have hly:=cU y;have htx:=XM (YW (cU x));have WU:=XM (YW (cU y));have kY:=hc x (Xk hx);have U3:=hc y (Xk hy);have oX:l[k - 1]'(by omega)=x:=by rw[Xj aa]at hx;exact XU.inj hx
  have zo:l[k]=y:=by rw[Xj hlt]at hy;exact XU.inj hy
  replace oX:=Xi oX;replace zo:=Xi zo;replace hm:=Xi hm;cases hge:decide (key x>=key y)with
  |true=>
   have hr:fJ key l=false:=by
    rw[YB,ne_eq,eZ];intro h;have:=h (k - 1) aa;simp only[show k - 1+1=k by omega,oX.out,zo.out]at this;simp at hge;omega
   exact aY;all_goals(rw[hr];exact aO.refl _)
  |false=>
   refine aq ?_<;>intros;refine nR _ _ _ _ _ ?_ ⟨k+1,by omega,fun j hj CY=>?_,rfl,rfl,rfl⟩ (wf (x:=[]) (hh:=rfl) (he:=⟨rfl,rfl,rfl,rfl,trivial⟩))
   ·have:=hm.out;omega
   ·rcases XL (j+1) k with h|h
    ·exact bD j hj h
    ·obtain rfl:j=k - 1:=aa;simp only[show k - 1+1=k by omega,oX.out,zo.out];simp at hge;omega
 ·have fy:decide ((k:Int) < (l.length:Int))=false:=aN;have hr:fJ key l=true:=(eZ l).2 fun j hj=>bD j hj aa;replace hm:=Xi hm;exact aY;all_goals(rw[hr];exact aO.refl _)):p:=h
theorem a2D {p:Prop}(h:p:=by
 rintro⟨h1,h2⟩ j hj;cases j with
 |zero=>exact h1
 |succ j=>exact h2 j (by simpa using hj)):p:=h
theorem a2H {p:Prop}(h:p:=by
 exact wf (x:=[]) (hh:=rfl) (he:=⟨rfl,rfl,rfl,rfl,trivial⟩)):p:=h
theorem a3p {p:Prop}(h:p:=by
 intro h;exact⟨h 0 ak,fun j hj=>h (j+1) (by simpa using hj)⟩):p:=h
theorem a4b {p:Prop}(h:p:=by
 refine pj func180 ntmps180 results180 ?_;exact aY;all_goals exact aO.refl _):p:=h
theorem a4c {p:Prop}(h:p:=by
 refine pj func219 ntmps219 results219 ?_;exact aY;all_goals exact aO.refl _):p:=h
def cD (n:Int):Bool:=decide (1<=n)&&decide (n<=65536)
theorem lO [Flo](n:Int):ai prog 148 [.v (.int .i64 n)] (.v (.bool (cD n))):=by
 cases e1:decide (n>=1)with
 |true=>
  have h1:decide (1<=n)=true:=e1;refine pj func148 ntmps148 results148 ?_;refine aq ?_<;>intros;all_goals(unfold cD;rw[h1];exact aO.refl _)
 |false=>
  have h1:decide (1<=n)=false:=e1;refine pj func148 ntmps148 results148 ?_;refine aq ?_<;>intros;all_goals(unfold cD;rw[h1];exact aO.refl _)
theorem Ip [Flo]{x y:Bool}(h:x=y):aO (.v (.bool x)) (.v (.bool y)):=h ▸ aO.refl _
theorem sH [Flo]{x y:Int}(h:x=y):aO (.v (.int .i64 x)) (.v (.int .i64 y)):=h ▸ aO.refl _
def qH (f:Fce):Bool:=decide ((f.addrs.length:Int)>4)
def oM (s:Sbn):Bool:=decide ((s.faces.length:Int)>8)||s.faces.any qH
def lP (v:Vpc):Bool:=decide ((v.ranges.length:Int)>4)||(decide ((v.subs.length:Int)>6)||v.subs.any oM)
theorem M5 [Flo](f:Fce):ai prog 231 [.agg (bR f)] (.v (.bool (qH f))):=by
 refine pj func231 ntmps231 results231 ?_;exact aY;all_goals exact aO.refl _
theorem QR [Flo](s:Sbn):ai prog 229 [.agg (aT s)] (.v (.bool (oM s))):=by
 unfold oM;by_cases h:s.faces.length>8
 ·have h1:decide ((s.faces.length:Int)>8)=true:=aN;rw[h1];refine pj func229 ntmps229 results229 ?_;exact aY;all_goals exact aO.refl _
 ·have h1:decide ((s.faces.length:Int)>8)=false:=aN;have hc:=Kc xr qH s.faces 231 [] aa (fun f _=>M5 f);rw[h1];refine pj func229 ntmps229 results229 ?_;exact aY;all_goals exact aO.refl _
theorem Ud [Flo](v:Vpc):ai prog 180 [.agg (au v)] (.v (.bool (lP v))):=by
 unfold lP;cases h1:decide ((v.ranges.length:Int)>4)with
 |true=>exact a4b
 |false=>
  cases h2:decide ((v.subs.length:Int)>6)with
  |true=>exact a4b
  |false=>
   have hl:v.subs.length<=6:=by simp at h2;omega
   have hc:=xz nl oM v.subs 229 [] aa (fun f _=>QR f);refine pj func180 ntmps180 results180 ?_;exact aY;all_goals exact aO.refl _
theorem xF {v:Vpc}(h:lP v=false):v.ranges.length<=4/\v.subs.length<=6/\∀s∈v.subs,s.faces.length<=8/\∀f∈s.faces,f.addrs.length<=4:=by
 simp only[lP,oM,qH,Zl,decide_eq_false_iff_not,Yh]at h;refine⟨by omega,by omega,fun s hs=>?_⟩;have h1:=h.2.2 s hs;simp only[ZM,Zl,decide_eq_false_iff_not,Yh,decide_eq_true_eq]at h1;exact⟨by omega,fun f hf=>by have h2:=h1.2 f hf;revert h2;simp[qH];omega⟩
def fW (v:Vpc)(p:Pfx):Bool:=v.ranges.any fun r=>dS p r.at_
theorem M6 [Flo](r:Rng)(p:Pfx):ai prog 214 [.agg (bp r),.ept (aS p)] (.v (.bool (dS p r.at_))):=by
 have hi:ai prog 43 [.agg (aS p),.agg (aS r.at_)] (.v (.bool (dS p r.at_))):=Eh p r.at_;refine pj func214 ntmps214 results214 ?_;exact aY
theorem sI [Flo](v:Vpc)(p:Pfx)(hl:v.ranges.length<=1000000000):ai prog 149 [.agg (au v),.agg (aS p)] (.v (.bool (fW v p))):=by
 have hc:=ol nm (fun r=>dS p r.at_) v.ranges 214 [.ept (aS p)] hl (fun r _=>M6 r p);refine pj func149 ntmps149 results149 ?_;exact aY
theorem QS [Flo](p:Pfx)(x:Int):ai prog 25 [.agg (aS p),.v (.int .i64 x)] (.v (.bool (mF p.at_ p.len x))):=fm (cS func25 aK rfl) (by intro d hd;simp at hd;(repeat(first|(obtain rfl:=hd;rfl)|(rcases hd with rfl|hd; · rfl)))) rfl rfl (fun w=>Kh _ _ _ _)
def jD (p:Pfx)(x:Int):Bool:=mF p.at_ p.len x&&(decide (x>p.at_)&&decide (x < p.at_+eV p.len - 1))
theorem Iq [Flo](p:Pfx)(x:Int):ai prog 219 [.agg (aS p),.v (.int .i64 x)] (.v (.bool (jD p x))):=by
 have hh:=QS p x;unfold jD;cases h1:mF p.at_ p.len x with
 |false=>
  rw[h1]at hh;refine pj func219 ntmps219 results219 ?_;exact aY;all_goals exact aO.refl _
 |true=>
  have hr:p.right=true:=(nu.1 (by rw[<-px];exact h1)).1;obtain⟨b1,b2,b3,b4,-⟩:=p.bd hr;have hs:=fG b1;have F7:=Ua p;rw[vl hr]at F7;have co:IntKind.i64.wrap (p.at_+eV p.len)=p.at_+eV p.len:=by rw[IntKind.wrap_i64];omega
  have cM:IntKind.i64.wrap (p.at_+eV p.len - 1)=p.at_+eV p.len - 1:=by rw[IntKind.wrap_i64];omega
  rw[h1]at hh;generalize eV p.len=Z at*;cases h2:decide (x>p.at_)with
  |false=>exact a4c
  |true=>exact a4c
def fJ {α:Type}(key:α->Int):List α->Bool
 |a::b::l=>decide (key a < key b)&&fJ key (b::l)
 |_=>true
theorem eZ {α:Type}{key:α->Int}:∀(l:List α),fJ key l=true↔∀j (h:j+1 < l.length),key l[j] < key l[j+1]
 |[]=>by simp[fJ]
 |[a]=>by simp[fJ]
 |a::b::l=>by
  have ih:=eZ (key:=key) (b::l);simp only[fJ,Xv,decide_eq_true_eq,ih];constructor
  ·exact a2D
  ·exact a3p
theorem gG {α:Type}{key:α->Int}:∀(l:List α),fJ key l=true↔l.Pairwise fun a b=>key a < key b
 |[]=>by simp[fJ]
 |[a]=>by simp[fJ]
 |a::b::l=>by
  have ih:=gG (key:=key) (b::l);simp only[fJ,Xv,decide_eq_true_eq,ih];constructor
  ·rintro⟨h1,h2⟩;refine YA.2 ⟨fun x hx=>?_,h2⟩;rcases XY.1 hx with rfl|hx
   ·exact h1
   ·have:=(YA.1 h2).1 x hx;omega
  ·intro h;obtain⟨h1,h2⟩:=YA.1 h;exact⟨h1 b ak,h2⟩
theorem Ei [Flo]{α:Type}{enc:α->List D}(cU:∀x,(enc x).length=3)(key:α->Int)(l:List α)(g:Nat)(hl:l.length<=1000000000)(hc:∀x∈l,ai prog g [.agg (enc x)] (.v (.int .i64 (key x)))):
 ai prog 181 [.sl 3 (l.map enc),.clo g []] (.v (.bool (fJ key l))):=by
 refine pj func181 ntmps181 results181 ?_;refine aq ?_<;>intros;refine bL ag am (fun m e h=>∃k:Nat,1<=k/\(∀j (h:j+1 < l.length),j+1 < k->key l[j] < key l[j+1])/\m=l.length - k/\e=[(5,.d (.v (.int .i64 k))),(4,.d (.v (.bool false))),(1,.d (.clo g [])),(0,.d (.sl 3 (l.map enc)))]/\h=[]) _ _ _ ⟨1,XA _,fun j h h1=>by omega,rfl,rfl,rfl⟩ ?_ ?_
 ·exact a2H
 ·exact Id
theorem Kj [Flo]{α:Type}{enc:α->List D}(cU:∀x,(enc x).length=4)(key:α->Int)(l:List α)(g:Nat)(hl:l.length<=1000000000)(hc:∀x∈l,ai prog g [.agg (enc x)] (.v (.int .i64 (key x)))):
 ai prog 183 [.sl 4 (l.map enc),.clo g []] (.v (.bool (fJ key l))):=by
 refine pj func183 ntmps183 results183 ?_;refine aq ?_<;>intros;refine bL ag am (fun m e h=>∃k:Nat,1<=k/\(∀j (h:j+1 < l.length),j+1 < k->key l[j] < key l[j+1])/\m=l.length - k/\e=[(5,.d (.v (.int .i64 k))),(4,.d (.v (.bool false))),(1,.d (.clo g [])),(0,.d (.sl 4 (l.map enc)))]/\h=[]) _ _ _ ⟨1,XA _,fun j h h1=>by omega,rfl,rfl,rfl⟩ ?_ ?_
 ·exact a2H
 ·exact Id
theorem GI [Flo]{α:Type}{enc:α->List D}(cU:∀x,(enc x).length=2)(key:α->Int)(l:List α)(g:Nat)(hl:l.length<=1000000000)(hc:∀x∈l,ai prog g [.agg (enc x)] (.v (.int .i64 (key x)))):
 ai prog 234 [.sl 2 (l.map enc),.clo g []] (.v (.bool (fJ key l))):=by
 refine pj func234 ntmps234 results234 ?_;refine aq ?_<;>intros;refine bL ag am (fun m e h=>∃k:Nat,1<=k/\(∀j (h:j+1 < l.length),j+1 < k->key l[j] < key l[j+1])/\m=l.length - k/\e=[(5,.d (.v (.int .i64 k))),(4,.d (.v (.bool false))),(1,.d (.clo g [])),(0,.d (.sl 2 (l.map enc)))]/\h=[]) _ _ _ ⟨1,XA _,fun j h h1=>by omega,rfl,rfl,rfl⟩ ?_ ?_
 ·exact a2H
 ·exact Id
theorem Kk [Flo](l:List Int)(g:Nat)(hl:l.length<=1000000000)(hc:∀x,ai prog g [.v (.int .i64 x)] (.v (.int .i64 x))):
 ai prog 232 [.sl 1 (l.map cm),.clo g []] (.v (.bool (fJ (fun x=>x) l))):=by
 refine pj func232 ntmps232 results232 ?_;refine aq ?_<;>intros;refine bL ag am (fun m e h=>∃k:Nat,1<=k/\(∀j (h:j+1 < l.length),j+1 < k->l[j] < l[j+1])/\m=l.length - k/\e=[(5,.d (.v (.int .i64 k))),(4,.d (.v (.bool false))),(1,.d (.clo g [])),(0,.d (.sl 1 (l.map cm)))]/\h=[]) _ _ _ ⟨1,XA _,fun j h h1=>by omega,rfl,rfl,rfl⟩ ?_ ?_
 ·exact a2H
 ·rintro m e h ⟨k,qs,bD,hm,rfl,rfl⟩ CL nR;by_cases hlt:k < l.length
  ·obtain⟨x,hx⟩:∃x,l[k - 1]? =some x:=⟨_,Xj aa⟩;obtain⟨y,hy⟩:∃y,l[k]? =some y:=⟨_,Xj hlt⟩;have fy:(k:Int) < (l.length:Int):=aa;have cX:=wi k aa;have CZ:IntKind.i64.wrap ((k:Int) - 1)=((k - 1:Nat):Int):=by rw[IntKind.wrap_i64];omega
   have kY:=hc x;have U3:=hc y;have oX:l[k - 1]'(by omega)=x:=by rw[Xj aa]at hx;exact XU.inj hx
   have zo:l[k]=y:=by rw[Xj hlt]at hy;exact XU.inj hy
   replace oX:=Xi oX;replace zo:=Xi zo;replace hm:=Xi hm;cases hge:decide (x>=y)with
   |true=>
    have hr:fJ (fun x=>x) l=false:=by
     rw[YB,ne_eq,eZ];intro h;have:=h (k - 1) aa;simp only[show k - 1+1=k by omega,oX.out,zo.out]at this;simp at hge;omega
    exact aY;all_goals(rw[hr];exact aO.refl _)
   |false=>
    refine aq ?_<;>intros;refine nR _ _ _ _ _ ?_ ⟨k+1,by omega,fun j hj CY=>?_,rfl,rfl,rfl⟩ (wf (x:=[]) (hh:=rfl) (he:=⟨rfl,rfl,rfl,rfl,trivial⟩))
    ·have:=hm.out;omega
    ·rcases XL (j+1) k with h|h
     ·exact bD j hj h
     ·obtain rfl:j=k - 1:=aa;simp only[show k - 1+1=k by omega,oX.out,zo.out];simp at hge;omega
  ·have fy:decide ((k:Int) < (l.length:Int))=false:=aN;have hr:fJ (fun x=>x) l=true:=(eZ l).2 fun j hj=>bD j hj aa;replace hm:=Xi hm;exact aY;all_goals(rw[hr];exact aO.refl _)
def hO:List Pfx->List Pfx->Bool
 |_,[]=>true
 |pre,p::l=>!(pre.any p.meets)&&hO (pre++[p]) l
theorem M7 [Flo](q p:Pfx):ai prog 236 [.agg (aS q),.ept (aS p)] (.v (.bool (p.meets q))):=by
 have hm:ai prog 19 [.agg (aS p),.agg (aS q)] (.v (.bool (p.meets q))):=qd p q;refine pj func236 ntmps236 results236 ?_;exact aY
theorem kJ {α:Type}{l:List α}{k:Nat}{x:α}(h:l[k]? =some x):l.drop k=x::l.drop (k+1):=by
 obtain⟨hk,rfl⟩:=Xm.1 h;exact YN hk
theorem Ir [Flo](l:List Pfx)(hl:l.length<=1000000000):ai prog 186 [.sl 2 (l.map aS)] (.v (.bool (hO [] l))):=by
 refine pj func186 ntmps186 results186 ?_;refine aq ?_<;>intros;refine bq ag am l (fun k=>hO [] l=hO (l.take k) (l.drop k)) (fun k=>[(7,.d (.v (.int .i64 k))),(6,.d (.v (.int .i64 l.length))),(5,.d (.sl 2 (l.map aS))),(2,.d (.v (.bool false))),(0,.d (.sl 2 (l.map aS)))]) (fun _=>[]) rfl (wf (x:=[]) (hh:=rfl) (he:=⟨rfl,rfl,rfl,rfl,rfl,trivial⟩)) ?_ ?_
 ·intro k p hp hk hI C hC;have dF:(k:Int) < (l.length:Int):=aa;have cX:=wi k aa;have oZ:=vf D0 p.meets (l.take k) 236 [.ept (aS p)] (by rw[Xo];omega) (fun q _=>M7 q p);rw[ZK]at oZ;rw[kJ hp]at hI;simp only[hO,<-aj hp]at hI;replace hI:=Xi hI;have wF:k<=l.length:=aa;cases ha:(l.take k).any p.meets with
  |true=>
   rw[ha]at oZ;refine aq ?_<;>intros;all_goals(rw[hI.out,ha];exact aO.refl _)
  |false=>
   rw[ha]at oZ;refine aq ?_<;>intros;exact hC _ _ (by rw[hI.out,ha];rfl) (wf)
 ·intro hI C;rw[Y6]at hI;replace hI:=Xi hI;refine aq ?_<;>intros;all_goals(rw[hI.out];exact aO.refl _)
theorem IO {p:Prop}(h:p:=by
 obtain rfl:k=v.ranges.length:=aa;rw[Xq]at hX ⊢;replace hX:=Xi hX;replace hm0:=Xi hm0;refine aq ?_<;>intros;refine bL ag am (fun m e h=>∃(k g2:Nat) (Y:Bool),k<=v.subs.length/\Y=(X&&(v.subs.take k).all (nx v))/\m=v.subs.length - k/\e=[(53,.d (.v (.int .i64 k))),(52,.d (.v (.int .i64 v.subs.length))),(51,.d (.sl 4 (v.subs.map aT))),(5,.d (.v (.bool Y))),(4,.own 2 g2),(3,.own 1 g),(2,.d (.v (.int .i64 0))),(1,.ptr 0 0)]/\
  h=[.box 55 ((au v).map .d),.row 32 2 g (ab ((v.ranges.map (·.at_)).map aS)),.row 32 2 g2 (ab (((v.subs.take k).map (·.at_)).map aS))]) _ _ _ ⟨0,0,X,XE _,by simp,rfl,rfl,rfl⟩ ((du (XE _) 4 32 2 rfl).trans (wf)) ?_
 rintro m2 e h ⟨k,g2,Y,jq,hY,iL,rfl,rfl⟩ C hC;by_cases hlt:k < v.subs.length
 ·have dF:(k:Int) < (v.subs.length:Int):=aa;have cX:=wi k aa;obtain⟨s,hs⟩:∃s,v.subs[k]? =some s:=⟨_,Xj hlt⟩;have mQ:=Xk hs;have F7:=lO s.id;have L4:=sI v s.at_ aa;have hsf:=Cd s (h8.out s mQ).1 (h8.out s mQ).2;have kV:(Ye k v.subs).length=k:=by rw[Xo];omega
  have wg:(k+1)*16<=140737488355328:=aa;have qu:=lR (p:=nx v) hs;have Ag:nx v s=(cD s.id&&(fW v s.at_&&dJ s)):=rfl;generalize fW v s.at_=H at*;generalize cD s.id=I at*;generalize dJ s=F at*;replace hY:=Xi hY;replace qu:=Xi qu;replace Ag:=Xi Ag;replace iL:=Xi iL;replace hs:=Xi hs;have a0a:=hs.out;refine fl ?_ ?_ ?_ ?_ ?_ ?_ ?_ ?_<;>first|(with_reducible exact True.intro)|intros
  all_goals(refine hC _ _ _ _ _ ?_ ⟨k+1,g2+1,_,hlt,?_,rfl,rfl,rfl⟩ (wf (hh:=(by rw[aj hs.out];simp only[au,Xn,Xl,Xp,aS,<-aI];rfl))))
  all_goals first
   |(have:=iL.out;omega)
   |(have h1:=hY.out;have h2:=qu.out;have h3:=Ag.out;clear C4 C5 qw kU hid F7 L4 hsf hC zc;grind)
 ·obtain rfl:k=v.subs.length:=aa;rw[Xq]at hY ⊢;replace hY:=Xi hY;replace iL:=Xi iL;have U6:hO [] (v.ranges.map (·.at_))=hO [] (v.ranges.map (·.at_)):=rfl;generalize Tx:hO [] (v.ranges.map (·.at_))=A1 at*;generalize L5:hO [] (v.subs.map (·.at_))=A2 at*;replace Tx:=Xi Tx;replace L5:=Xi L5;clear U6;refine aq ?_<;>intros;all_goals
   have h1:=hX.out;have h2:=hY.out;clear C4 C5 qw kU hid hC zc;first
    |exact aO.refl _
    |(rw[ah ld];exact aO.refl _)
    |(rw[af ld];exact aO.refl _)
    |(exfalso;grind)):p:=h
theorem Pi {p:Prop}(h:p:=by
 have dF:(k:Int) < (v.ranges.length:Int):=aa;have cX:=wi k aa;obtain⟨r,hr⟩:∃r,v.ranges[k]? =some r:=⟨_,Xj hlt⟩;have HR:=lO r.pool;have Xg:=sE r.at_;have kV:(Ye k v.ranges).length=k:=by rw[Xo];omega
 have wg:(k+1)*16<=140737488355328:=aa;have qu:=lR (p:=eR) hr;have qy:eR r=(cD r.pool&&(chk r.at_.at_ r.at_.len==0)):=rfl;generalize chk r.at_.at_ r.at_.len=K at*;generalize cD r.pool=I at*;replace hX:=Xi hX;replace qu:=Xi qu;replace qy:=Xi qy;replace hm0:=Xi hm0;replace hr:=Xi hr;have Xh:=hr.out;refine fl ?_ ?_ ?_ ?_ ?_ ?_ ?_ ?_<;>first|(with_reducible exact True.intro)|intros
 all_goals(refine hC _ _ _ _ _ ?_ ⟨k+1,g+1,_,hlt,?_,rfl,rfl,rfl⟩ (wf (hh:=(by rw[aj hr.out];simp only[au,Xn,Xl,Xp,aS,<-aI];rfl))))
 all_goals first
  |(have:=hm0.out;omega)
  |(have h1:=hX.out;have h2:=qu.out;have h3:=qy.out;clear C4 C5 qw kU hid HR Xg hC zc;grind)):p:=h
def lQ (at_:Pfx)(f:Fce):Bool:=cD f.id&&(!((f.addrs.length:Int)==0)&&(fJ (fun x=>x) f.addrs&&f.addrs.all (jD at_)))
def dJ (s:Sbn):Bool:=s.faces.all (lQ s.at_)&&(decide (s.faces.flatMap (·.addrs)).Nodup&&fJ (·.id) s.faces)
theorem M8 [Flo](n:Int):ai prog 233 [.v (.int .i64 n)] (.v (.int .i64 n)):=by
 refine pj func233 ntmps233 results233 ?_;exact aY
theorem M9 [Flo](f:Fce):ai prog 235 [.agg (bR f)] (.v (.int .i64 f.id)):=by
 refine pj func235 ntmps235 results235 ?_;exact aY
def Ue (ents:List (List Int × Int))(done:List Int):Prop:=∀a,lB ents [a]=if a∈done then some 1 else none
theorem Is:Ue [] []:=fun a=>by simp[lB]
theorem Ej {ents:List (List Int × Int)}{done:List Int}(h:Ue ents done){a:Int}(ha:a∉done):Ue (nd ents [a] 1) (done++[a]):=by
 intro b;rw[iK,h b];by_cases hb:a=b
 ·subst hb;simp
 ·have hb':¬b=a:=fun e=>hb e.symm;simp[hb,hb']
theorem rn {l:List Int}{a:Int}:(l++[a]).Nodup↔l.Nodup/\a∉l:=by
 rw[Z'];simp;intro _;constructor
 ·intro h hm;exact h a hm rfl
 ·intro h b hb e;subst e;exact h hb
theorem Cd [Flo](s:Sbn)(h8:s.faces.length<=8)(h4:∀f∈s.faces,f.addrs.length<=4):ai prog 185 [.agg (aT s)] (.v (.bool (dJ s))):=by
 have Jh:=GI xr (·.id) s.faces 235 aa (fun f _=>M9 f);refine pj func185 ntmps185 results185 ?_;refine aq ?_<;>intros;refine bL ag am (fun m e h=>∃(k:Nat) (ents:List (List Int × Int)),k<=s.faces.length/\Ue ents ((s.faces.take k).flatMap (·.addrs))/\((s.faces.take k).flatMap (·.addrs)).Nodup/\(∀f∈s.faces.take k,lQ s.at_ f=true)/\m=s.faces.length - k/\
  e=[(12,.d (.v (.int .i64 k))),(11,.d (.v (.int .i64 s.faces.length))),(10,.d (.sl 2 (s.faces.map bR))),(3,.mref 1),(2,.d (.v (.bool false))),(1,.ptr 0 0)]/\h=[.box 71 ((aT s).map .d),.mp 1 false ents]) _ _ _ ⟨0,[],XE _,Is,List.nodup_nil,fun f h=>by simp at h,rfl,rfl,rfl⟩ (wf) ?_
 rintro m e h ⟨k,ents,hk,qx,ml,bO,hm,rfl,rfl⟩ C hC;by_cases hlt:k < s.faces.length
 ·have dF:(k:Int) < (s.faces.length:Int):=aa;have cX:=wi k aa;obtain⟨f,hf⟩:∃f,s.faces[k]? =some f:=⟨_,Xj hlt⟩;have FJ:=Xk hf;have hid:=lO f.id;have zp:=Kk f.addrs 233 (by have:=h4 f FJ;omega) M8;have ip:=h4 f FJ;have bE:lQ s.at_ f=false->dJ s=false:=fun h=>by
   unfold dJ;rw[ZN];left;rw[Y2];exact⟨f,FJ,by rw[h];simp⟩
  replace bE:=Xi bE;replace hm:=Xi hm;replace qx:=Xi qx;replace ml:=Xi ml;replace bO:=Xi bO;have HS:lQ s.at_ f=(cD f.id&&(!((f.addrs.length:Int)==0)&&(fJ (fun x=>x) f.addrs&&f.addrs.all (jD s.at_)))):=rfl;replace HS:=Xi HS;cases b1:cD f.id with
  |false=>
   rw[b1]at hid;refine aq ?_<;>intros;all_goals(rw[bE.out (by rw[HS.out,b1];rfl)];exact aO.refl _)
  |true=>
  rw[b1]at hid;cases b2:(f.addrs.length:Int)==0 with
  |true=>
   refine aq ?_<;>intros;all_goals(rw[bE.out (by rw[HS.out,b1,b2];rfl)];exact aO.refl _)
  |false=>
  cases b3:fJ (fun x=>x) f.addrs with
  |false=>
   rw[b3]at zp;refine aq ?_<;>intros;all_goals(rw[bE.out (by rw[HS.out,b1,b2,b3];rfl)];exact aO.refl _)
  |true=>
  rw[b3]at zp;refine aq ?_<;>intros;refine bL ag am (fun m e h=>∃(j:Nat) (ents:List (List Int × Int)),j<=f.addrs.length/\Ue ents ((s.faces.take k).flatMap (·.addrs)++f.addrs.take j)/\((s.faces.take k).flatMap (·.addrs)++f.addrs.take j).Nodup/\(∀a∈f.addrs.take j,jD s.at_ a=true)/\m=f.addrs.length - j/\
   e=[(35,.d (.v (.int .i64 j))),(34,.d (.v (.int .i64 f.addrs.length))),(33,.d (.sl 1 (f.addrs.map cm))),(12,.d (.v (.int .i64 k))),(11,.d (.v (.int .i64 s.faces.length))),(10,.d (.sl 2 (s.faces.map bR))),(3,.mref 1),(2,.d (.v (.bool false))),(1,.ptr 0 0)]/\h=[.box 71 ((aT s).map .d),.mp 1 false ents]) _ _ _ ⟨0,ents,XE _,by simpa using qx.out,by simpa using ml.out,fun f h=>by simp at h,rfl,rfl,rfl⟩ (wf) ?_
  rintro m2 e h ⟨j,en2,hj,jP,za,zb,iL,rfl,rfl⟩ C2 jU;by_cases qt:j < f.addrs.length
  ·have lh:(j:Int) < (f.addrs.length:Int):=aa;have mW:=wi j aa;obtain⟨a,ha⟩:∃a,f.addrs[j]? =some a:=⟨_,Xj qt⟩;have ham:=Xk ha;have dM:=Iq s.at_ a;have U4:=jP a;have iV:f.addrs.take (j+1)=f.addrs.take j++[a]:=aj ha;replace iV:=Xi iV;replace iL:=Xi iL;replace zb:=Xi zb;replace za:=Xi za;by_cases hd:a∈(s.faces.take k).flatMap (·.addrs)++f.addrs.take j
   ·rw[ah hd]at U4;have hr:dJ s=false:=by
     have:¬(s.faces.flatMap (·.addrs)).Nodup:=by
      intro hn;have yZ:((s.faces.take k).flatMap (·.addrs)++f.addrs.take (j+1)).Sublist (s.faces.flatMap (·.addrs)):=by
       conv=>rhs;rw[<-YV k s.faces,kJ hf,Zu,List.flatMap_cons]
       exact List.Sublist.append (List.Sublist.refl _) ((_a _ _).trans (List.sublist_append_left _ _))
      have:=yZ.nodup hn;rw[iV.out,<-X3,rn]at this;exact this.2 hd
     unfold dJ;simp[this]
    have gM:lB (nd en2 [a] 2) [a]=some 2:=by rw[iK,ah rfl]
    replace jP:=Xi jP;have cM:IntKind.i64.wrap 2=2:=zr;have hgt:decide ((2:Int)>1)=true:=rfl;exact aY;all_goals(rw[hr];exact aO.refl _)
   ·rw[af hd]at U4;have gM:lB (nd en2 [a] 1) [a]=some 1:=by rw[iK,ah rfl]
    have fP:=Ej jP hd;replace jP:=Xi jP;replace fP:=Xi fP;have cM:IntKind.i64.wrap 1=1:=zr;have hgt:decide ((1:Int)>1)=false:=rfl;cases b4:jD s.at_ a with
    |false=>
     rw[b4]at dM;have hr:dJ s=false:=bE.out (by
      rw[HS.out,b1,b2,b3];have:f.addrs.all (jD s.at_)=false:=by rw[Y2];exact⟨a,ham,by rw[b4];simp⟩
      rw[this];rfl)
     exact aY;all_goals(rw[hr];exact aO.refl _)
    |true=>
     rw[b4]at dM;refine aq ?_<;>intros;refine jU _ _ _ _ _ ?_ ⟨j+1,nd en2 [a] 1,qt,?_,?_,?_,rfl,rfl,rfl⟩ (wf)
     ·have:=iL.out;omega
     ·rw[iV.out,<-X3];exact fP.out
     ·rw[iV.out,<-X3,rn];exact⟨za.out,hd⟩
     ·intro b hb;rw[iV.out]at hb;rcases X0.1 hb with hb|hb
      ·exact zb.out b hb
      ·rw[Yc.1 hb];exact b4
  ·obtain rfl:j=f.addrs.length:=aa;rw[Xq]at jP za zb;have wh:(s.faces.take (k+1)).flatMap (·.addrs)=(s.faces.take k).flatMap (·.addrs)++f.addrs:=by rw[aj hf,Zu];simp
   replace iL:=Xi iL;replace jP:=Xi jP;replace za:=Xi za;replace zb:=Xi zb;replace wh:=Xi wh;refine aq ?_<;>intros;refine hC _ _ _ _ _ ?_ ⟨k+1,en2,hlt,?_,?_,?_,rfl,rfl,rfl⟩ (wf)
   ·have:=hm.out;omega
   ·rw[wh.out];exact jP.out
   ·rw[wh.out];exact za.out
   ·intro g hg;rw[aj hf]at hg;rcases X0.1 hg with hg|hg
    ·exact bO.out g hg
    ·rw[Yc.1 hg,HS.out,b1,b2,b3];simp only[Yp,Bool.not_false];exact XD.2 zb.out
 ·obtain rfl:k=s.faces.length:=aa;rw[Xq]at qx ml bO;have hr:dJ s=fJ (·.id) s.faces:=by
   unfold dJ;rw[XD.2 bO];simp[ml]
  replace hr:=Xi hr;replace qx:=Xi qx;replace ml:=Xi ml;replace bO:=Xi bO;replace hm:=Xi hm;refine aq ?_<;>intros;all_goals(rw[hr.out];exact aO.refl _)
def eR (r:Rng):Bool:=cD r.pool&&(chk r.at_.at_ r.at_.len==0)
def nx (v:Vpc)(s:Sbn):Bool:=cD s.id&&(fW v s.at_&&dJ s)
def qI (v:Vpc):Bool:=(cD v.id&&(fJ (·.at_.at_) v.ranges&&fJ (·.id) v.subs))&&(v.ranges.all eR&&v.subs.all (nx v))
def bM (v:Vpc):Int:=if lP v then 2 else if qI v&&(hO [] (v.ranges.map (·.at_))&&hO [] (v.subs.map (·.at_)))then 0 else 1
theorem Kl [Flo](r:Rng):ai prog 182 [.agg (bp r)] (.v (.int .i64 r.at_.at_)):=by
 refine pj func182 ntmps182 results182 ?_;exact aY
theorem Km [Flo](s:Sbn):ai prog 184 [.agg (aT s)] (.v (.int .i64 s.id)):=by
 refine pj func184 ntmps184 results184 ?_;exact aY
theorem lR {α:Type}{p:α->Bool}{l:List α}{k:Nat}{x:α}(h:l[k]? =some x):(l.take (k+1)).all p=((l.take k).all p&&p x):=by
 rw[aj h,ZR];simp
theorem py [Flo](v:Vpc):ai prog 97 [.agg (au v)] (.v (.int .i64 (bM v))):=by
 have zc:=Ud v;cases hm:lP v with
 |true=>
  rw[hm]at zc;have hr:bM v=2:=by unfold bM;rw[ah hm]
  rw[hr];refine pj func97 ntmps97 results97 ?_;exact aY
 |false=>
 obtain⟨h4,h6,h8⟩:=xF hm;rw[hm]at zc;have hid:=lO v.id;have qw:=Ei nm (fun r:Rng=>r.at_.at_) v.ranges 182 aa (fun r _=>Kl r);have kU:=Kj nl (fun s:Sbn=>s.id) v.subs 184 aa (fun r _=>Km r);obtain⟨F0,U5⟩:∃F0,F0=(cD v.id&&(fJ (·.at_.at_) v.ranges&&fJ (·.id) v.subs)):=⟨_,rfl⟩;have C4:=Ir (v.ranges.map (·.at_)) (by rw[Xs];omega);have C5:=Ir (v.subs.map (·.at_)) (by rw[Xs];omega);have rM:bM v=if (F0&&v.ranges.all eR&&v.subs.all (nx v))&&(hO [] (v.ranges.map (·.at_))&&hO [] (v.subs.map (·.at_)))then 0 else 1:=by
  unfold bM qI;rw[af (by simp[hm]),U5];simp only[_b]
 rw[rM];replace rM:=Xi rM;replace h8:=Xi h8;replace hm:=Xi hm;replace zc:=Xi zc;cases b1:cD v.id with
 |false=>
  rw[b1,Bool.false_and]at U5;subst U5;rw[b1]at hid;refine pj func97 ntmps97 results97 ?_;have z1z:=zc.out;have z2z:=zc.out;refine aq ?_<;>intros;refine bL ag am (fun m e h=>∃(k g:Nat) (X:Bool),k<=v.ranges.length/\X=(false&&(v.ranges.take k).all eR)/\m=v.ranges.length - k/\e=[(28,.d (.v (.int .i64 k))),(27,.d (.v (.int .i64 v.ranges.length))),(26,.d (.sl 3 (v.ranges.map bp))),(5,.d (.v (.bool X))),(4,.d (.v (.slice none 0 0))),(3,.own 1 g),(2,.d (.v (.int .i64 0))),(1,.ptr 0 0)]/\
   h=[.box 55 ((au v).map .d),.row 32 2 g (ab (((v.ranges.take k).map (·.at_)).map aS))]) _ _ _ ⟨0,0,false,XE _,by simp,rfl,rfl,rfl⟩ ((du (XE _) 3 32 2 rfl).trans (wf)) ?_
  rintro m e h ⟨k,g,X,hk,hX,hm0,rfl,rfl⟩ C hC;by_cases hlt:k < v.ranges.length
  ·exact Pi
  ·exact IO
 |true=>
  rw[b1]at hid;cases b2:fJ (fun r:Rng=>r.at_.at_) v.ranges with
  |false=>
   rw[b1,b2,Bool.false_and,Bool.and_false]at U5;subst U5;rw[b2]at qw;refine pj func97 ntmps97 results97 ?_;have z1z:=zc.out;refine aq ?_<;>intros;refine bL ag am (fun m e h=>∃(k g:Nat) (X:Bool),k<=v.ranges.length/\X=(false&&(v.ranges.take k).all eR)/\m=v.ranges.length - k/\e=[(28,.d (.v (.int .i64 k))),(27,.d (.v (.int .i64 v.ranges.length))),(26,.d (.sl 3 (v.ranges.map bp))),(5,.d (.v (.bool X))),(4,.d (.v (.slice none 0 0))),(3,.own 1 g),(2,.d (.v (.int .i64 0))),(1,.ptr 0 0)]/\
    h=[.box 55 ((au v).map .d),.row 32 2 g (ab (((v.ranges.take k).map (·.at_)).map aS))]) _ _ _ ⟨0,0,false,XE _,by simp,rfl,rfl,rfl⟩ ((du (XE _) 3 32 2 rfl).trans (wf)) ?_
   rintro m e h ⟨k,g,X,hk,hX,hm0,rfl,rfl⟩ C hC;by_cases hlt:k < v.ranges.length
   ·exact Pi
   ·exact IO
  |true=>
   rw[b1,b2,Yp,Yp]at U5;subst U5;rw[b2]at qw;generalize fJ (fun s:Sbn=>s.id) v.subs=F0 at*;refine pj func97 ntmps97 results97 ?_;have z1z:=zc.out;refine aq ?_<;>intros;refine bL ag am (fun m e h=>∃(k g:Nat) (X:Bool),k<=v.ranges.length/\X=(F0&&(v.ranges.take k).all eR)/\m=v.ranges.length - k/\e=[(28,.d (.v (.int .i64 k))),(27,.d (.v (.int .i64 v.ranges.length))),(26,.d (.sl 3 (v.ranges.map bp))),(5,.d (.v (.bool X))),(4,.d (.v (.slice none 0 0))),(3,.own 1 g),(2,.d (.v (.int .i64 0))),(1,.ptr 0 0)]/\
    h=[.box 55 ((au v).map .d),.row 32 2 g (ab (((v.ranges.take k).map (·.at_)).map aS))]) _ _ _ ⟨0,0,F0,XE _,by simp,rfl,rfl,rfl⟩ ((du (XE _) 3 32 2 rfl).trans (wf)) ?_
   rintro m e h ⟨k,g,X,hk,hX,hm0,rfl,rfl⟩ C hC;by_cases hlt:k < v.ranges.length
   ·exact Pi
   ·obtain rfl:k=v.ranges.length:=aa;rw[Xq]at hX ⊢;replace hX:=Xi hX;replace hm0:=Xi hm0;refine aq ?_<;>intros;refine bL ag am (fun m e h=>∃(k g2:Nat) (Y:Bool),k<=v.subs.length/\Y=(X&&(v.subs.take k).all (nx v))/\m=v.subs.length - k/\e=[(53,.d (.v (.int .i64 k))),(52,.d (.v (.int .i64 v.subs.length))),(51,.d (.sl 4 (v.subs.map aT))),(5,.d (.v (.bool Y))),(4,.own 2 g2),(3,.own 1 g),(2,.d (.v (.int .i64 0))),(1,.ptr 0 0)]/\
     h=[.box 55 ((au v).map .d),.row 32 2 g (ab ((v.ranges.map (·.at_)).map aS)),.row 32 2 g2 (ab (((v.subs.take k).map (·.at_)).map aS))]) _ _ _ ⟨0,0,X,XE _,by simp,rfl,rfl,rfl⟩ ((du (XE _) 4 32 2 rfl).trans (wf)) ?_
    rintro m2 e h ⟨k,g2,Y,jq,hY,iL,rfl,rfl⟩ C hC;by_cases hlt:k < v.subs.length
    ·have dF:(k:Int) < (v.subs.length:Int):=aa;have cX:=wi k aa;obtain⟨s,hs⟩:∃s,v.subs[k]? =some s:=⟨_,Xj hlt⟩;have mQ:=Xk hs;have F7:=lO s.id;have L4:=sI v s.at_ aa;have hsf:=Cd s (h8.out s mQ).1 (h8.out s mQ).2;have kV:(Ye k v.subs).length=k:=by rw[Xo];omega
     have wg:(k+1)*16<=140737488355328:=aa;have qu:=lR (p:=nx v) hs;have Ag:nx v s=(cD s.id&&(fW v s.at_&&dJ s)):=rfl;generalize fW v s.at_=H at*;generalize cD s.id=I at*;generalize dJ s=F at*;replace hY:=Xi hY;replace qu:=Xi qu;replace Ag:=Xi Ag;replace iL:=Xi iL;replace hs:=Xi hs;have a0a:=hs.out;refine fl ?_ ?_ ?_ ?_ ?_ ?_ ?_ ?_<;>first|(with_reducible exact True.intro)|intros
     all_goals(refine hC _ _ _ _ _ ?_ ⟨k+1,g2+1,_,hlt,?_,rfl,rfl,rfl⟩ (wf (hh:=(by rw[aj hs.out];simp only[au,Xn,Xl,Xp,aS,<-aI];rfl))))
     all_goals first
      |(have:=iL.out;omega)
      |(have h1:=hY.out;have h2:=qu.out;have h3:=Ag.out;clear C4 C5 qw kU hid F7 L4 hsf hC zc;grind)
    ·obtain rfl:k=v.subs.length:=aa;rw[Xq]at hY ⊢;replace hY:=Xi hY;replace iL:=Xi iL;have U6:hO [] (v.ranges.map (·.at_))=hO [] (v.ranges.map (·.at_)):=rfl;generalize Tx:hO [] (v.ranges.map (·.at_))=A1 at*;generalize L5:hO [] (v.subs.map (·.at_))=A2 at*;replace Tx:=Xi Tx;replace L5:=Xi L5;clear U6;refine zk ?_ ?_<;>intros;all_goals
      have h1:=hX.out;have h2:=hY.out;clear C4 C5 qw kU hid hC zc;first
       |exact aO.refl _
       |(rw[ah ld];exact aO.refl _)
       |(rw[af ld];exact aO.refl _)
       |(exfalso;grind)
def ct (s:Sbn)(v:PV):List PV:=[.d (.v (.int .i64 s.id)),.d (.v (.int .i64 s.at_.at_)),.d (.v (.int .i64 s.at_.len)),v]
def ek (f:Fce)(v:PV):List PV:=[.d (.v (.int .i64 f.id)),v]
def fu {α:Type}(enc:α->List D)(pre:List α)(r:List PV)(post:List α):List (List PV):=ab (pre.map enc)++r::ab (post.map enc)
section
variable {α:Type}{enc:α->List D}
@[go_sem] theorem Wh (pre:List α)(r:List PV)(post:List α):(fu enc pre r post).length=pre.length+1+post.length:=by
 simp[fu,aH];omega
theorem xG (n:Nat):∀(l m:List (List PV)),cB n (l++m)=(cB n l&&cB n m)
 |[],m=>rfl
 |r::l,m=>by simp only[X5,cB,xG n l m,_b]
theorem Ek (n:Nat)(pre:List α)(r:List PV)(post:List α):cB n (fu enc pre r post)=aw n r:=by
 simp only[fu,xG,cB,aF,Yp,Yx]
theorem cH {A:Prop}(h:A:=by first|rfl|simp only[aL,eD,aQ,aw,cB,ay,bu,aF,Ek,ct,ek,XC,XX,Xz,ZV,decide_true,Yq,Yx]):A:=h
theorem da (k g:Nat)(d:D)(pre:List α)(r:List PV)(post:List α):d7 k g d (fu enc pre r post)=fu enc pre (ee k g d r) post:=by
 simp only[fu,aD,d7,aZ]
theorem lG (pre:List α)(r:List PV)(post:List α)(q:α):fu enc pre r post++[(enc q).map .d]=fu enc pre r (post++[q]):=by
 simp[fu,ab]
@[go_sem] theorem VH (ρ:Nat->Nat)(pre:List α)(r:List PV)(post:List α):kE ρ (fu enc pre r post)=fu enc pre (jx ρ r) post:=by
 have app:∀(l m:List (List PV)),kE ρ (l++m)=kE ρ l++kE ρ m:=by
  intro l m;rw[eY,eY,eY,Xn]
 simp only[fu,app,kE,wV]
theorem AZ (f:PV->Option D):∀(l m:List (List PV)),dk f (l++m)=match dk f l,dk f m with|some a,some b=>some (a++b)|_,_=>none
 |[],m=>by simp only[X8,dk];cases dk f m<;>rfl
 |r::l,m=>by
  simp only[X5,dk,AZ f l m];cases cI f r<;>cases dk f l<;>cases dk f m<;>rfl
@[go_sem] theorem Uf (h:Nat->Chunk)(n:Nat)(pre:List α)(r:List PV)(post:List α):dk (br h n) (fu enc pre r post)=match cI (br h n) r with|some d=>some (pre.map enc++d::post.map enc)|none=>none:=by
 simp only[fu,AZ,dk,eL];cases cI (br h n) r<;>rfl
@[go_sem] theorem Wi (pre:List α)(r:List PV)(post:List α):(fu enc pre r post)[pre.length]? =some r:=by
 unfold fu;rw[XI (by simp[aH])];simp[aH]
@[go_sem] theorem Wj (pre:List α)(r r':List PV)(post:List α):(fu enc pre r post).set pre.length r'=fu enc pre r' post:=by
 unfold fu;rw[Yu _ _ (by simp[aH])];simp[aH]
end
def dn {α:Type}(key:α->Int)(x:α)(l:List α):List α:=l.take (jV key (key x) l)++x::l.drop (jV key (key x) l)
theorem Ug {α:Type}(key:α->Int)(t:Int)(l:List α):jV key t l<=l.length:=List.findIdx_le_length
theorem gH {α:Type}(key:α->Int)(x:α)(l:List α):(dn key x l).Perm (l++[x]):=by
 unfold dn;have h:l++[x]=(l.take (jV key (key x) l)++l.drop (jV key (key x) l))++[x]:=by rw[YV]
 rw[h,X3];refine List.Perm.append_left _ ?_;exact(List.perm_append_singleton _ _).symm
theorem ny {α:Type}{key:α->Int}{x y:α}{l:List α}:y∈dn key x l↔y=x\/y∈l:=by
 rw[(gH key x l).mem_iff];simp[or_comm]
theorem fK {α:Type}(key:α->Int)(x:α)(l:List α):(dn key x l).length=l.length+1:=by
 rw[(gH key x l).length_eq];simp
theorem hU {α:Type}{key:α->Int}{x:α}{l:List α}(hs:l.Pairwise fun a b=>key a < key b)(hn:∀y∈l,key y≠key x):(dn key x l).Pairwise fun a b=>key a < key b:=by
 have Af:∀y∈l.take (jV key (key x) l),key y < key x:=by
  intro y hy;obtain⟨i,hi,rfl⟩:=XZ.1 hy;rw[ZD];have:=Z5 (show i < jV key (key x) l by rw[Xo]at hi;omega);simp at this;exact this
 have Jl:∀y∈l.drop (jV key (key x) l),key x < key y:=by
  intro y hy;have HT:=Yd hy;obtain⟨i,hi,rfl⟩:=XZ.1 hy;rw[List.getElem_drop]at HT ⊢;rw[XO]at hi;have hlt:jV key (key x) l < l.length:=aa;have h0:=z' (xs:=l) (p:=fun y=>decide (key x<=key y)) (w:=hlt);simp only[decide_eq_true_eq]at h0;change key x<=key (l[jV key (key x) l]'hlt)at h0;have bG:=hn _ HT;rcases Zx i with h|h
  ·subst h;simp only[XG]at bG ⊢;omega
  ·have:=XH.1 hs _ (jV key (key x) l+i) hlt aa aa;omega
 unfold dn;rw[YQ,YA];refine⟨hs.sublist (_a _ _),⟨Jl,hs.sublist (List.drop_sublist _ _)⟩,fun a ha b hb=>?_⟩;rcases XY.1 hb with rfl|hb
 ·exact Af a ha
 ·have:=Af a ha;have:=Jl b hb;omega
def Vpc.zero:Vpc:=⟨0,[],[]⟩
theorem Vpc.zero_le [Flo]:aO (.agg [.v (.int .i64 0),.v (.slice none 0 0),.v (.slice none 0 0)]) (.agg (au Vpc.zero)):=by repeat(first|exact aO.refl _|exact aO.nil _|(refine aO.tup ?_)|(refine aO.agg ?_ rfl)|exact trivial|(refine And.intro ?_ ?_))
structure VpcOK (v:Vpc):Prop where
 n4:v.ranges.length<=4
 n6:v.subs.length<=6
 n8:∀s∈v.subs,s.faces.length<=8/\∀f∈s.faces,f.addrs.length<=4
 id:cD v.id=true
 rr:v.ranges.Pairwise fun a b=>a.at_.at_ < b.at_.at_
 rs:v.subs.Pairwise fun a b=>a.id < b.id
 ranges:∀r∈v.ranges,eR r=true
 subs:∀s∈v.subs,nx v s=true
 ar:hO [] (v.ranges.map (·.at_))=true
 as_:hO [] (v.subs.map (·.at_))=true
theorem Na {v:Vpc}:bM v=0↔lP v=false/\qI v=true/\hO [] (v.ranges.map (·.at_))=true/\hO [] (v.subs.map (·.at_))=true:=by
 unfold bM;generalize hO [] (v.ranges.map (·.at_))=A;generalize hO [] (v.subs.map (·.at_))=B;cases lP v<;>cases qI v<;>cases A<;>cases B<;>simp
theorem be {v:Vpc}(h:bM v=0):VpcOK v:=by
 obtain⟨h1,h2,h3,h4⟩:=Na.1 h;obtain⟨a,b,c⟩:=xF h1;unfold qI at h2;simp only[Xv,XD,gG]at h2;exact⟨a,b,c,h2.1.1,h2.1.2.1,h2.1.2.2,h2.2.1,h2.2.2,h3,h4⟩
theorem lu {r:Rng}(h:eR r=true):r.at_.right=true:=by
 unfold eR at h;simp only[Xv,beq_iff_eq]at h;simp[Pfx.right,bC,h.2]
theorem xH {p q:Pfx}(hp:p.right=true)(hq:q.right=true)(h:p.meets q=false):p.at_≠q.at_:=fun e=>by
 have b1:=p.hi_bd hp;have b2:=q.hi_bd hq;rw[dY.2 ⟨hp,hq,by omega,by omega⟩]at h;cases h
def mG (v:Vpc)(r:Rng):Int:=
 if chk r.at_.at_ r.at_.len≠0\/cD r.pool=false then 1 else
 if (v.ranges.any fun q=>q.at_.meets r.at_)=true then 6 else if v.ranges.length=4 then 2 else 0
def cE (v:Vpc)(r:Rng):Vpc × Int:=
 if bM v≠0 then (Vpc.zero,bM v)else if mG v r≠0 then (Vpc.zero,mG v r)else ({v with ranges:=dn (·.at_.at_) r v.ranges},0)
theorem a4d {p:Prop}(h:p:=by
 refine pj func241 ntmps241 results241 ?_;exact aY;all_goals exact aO.refl _):p:=h
theorem gI [Flo](n lo hi:Int):ai prog 75 [.v (.int .i64 n),.v (.int .i64 lo),.v (.int .i64 hi)] (.v (.bool (decide (lo<=n)&&decide (n<=hi)))):=by
 refine pj func75 ntmps75 results75 ?_;exact aY;all_goals exact Ip ld
theorem xI {α:Type}{p:α->Bool}{l:List α}{k:Nat}{x:α}(hx:l[k]? =some x)(hp:p x=true)(bQ:(l.take k).all (fun y=>!p y)=true):cq p l=k:=
 gE hx hp fun y hy=>by have:=XD.1 bQ y hy;simpa using this
theorem Ce {α:Type}{p:α->Bool}{l:List α}(bQ:(l.take l.length).all (fun y=>!p y)=true):cq p l= -1:=
 gF fun y hy=>by rw[Xq]at bQ;have:=XD.1 bQ y hy;simpa using this
theorem en {α:Type}{p:α->Bool}{l:List α}{k:Nat}{x:α}(hx:l[k]? =some x)(bQ:(l.take k).all p=true)(h:p x=true):(l.take (k+1)).all p=true:=by rw[lR hx,bQ,h];rfl
theorem A0 [Flo](v:Vpc)(p:Pfx)(hl:v.ranges.length<=1000000000):ai prog 192 [.agg (au v),.agg (aS p)] (.v (.bool (fW v p))):=by
 obtain⟨R,hR⟩:∃R,R=fW v p:=⟨_,rfl⟩;rw[<-hR];replace hR:=Xi hR;refine pj func192 ntmps192 results192 ?_;refine aq ?_<;>intros;refine bq ag am v.ranges (fun k=>(v.ranges.take k).all (fun r=>!(dS p r.at_))=true) (fun k=>[(5,.d (.v (.int .i64 k))),(4,.d (.v (.bool false))),(3,.ptr 1 0),(2,.ptr 0 0)]) (fun _=>[.box 55 ((au v).map .d),.box 32 ((aS p).map .d)]) rfl (wf) ?_ ?_
 ·intro k r hr hk hI C hC;have dF:(k:Int) < (v.ranges.length:Int):=aa;have cX:=wi k aa;have hi:=xE p r.at_;rw[wv]at hi;replace hI:=Xi hI;cases h1:dS p r.at_ with
  |true=>
   rw[h1]at hi;have hb:R=true:=by rw[hR.out];exact XR.2 ⟨r,Xk hr,h1⟩
   rw[hb];replace hb:=Xi hb;exact aY;all_goals exact aO.refl _
  |false=>
   rw[h1]at hi;have mY:=Xi (en (p:=fun r:Rng=>!(dS p r.at_)) hr hI.out (by rw[h1];rfl));refine aq ?_<;>intros;exact hC _ _ mY.out (wf)
 ·intro hI C;rw[Xq]at hI;have hb:R=false:=by rw[hR.out];unfold fW;rw[Yh];intro x hx;have:=XD.1 hI x hx;simpa using this
  rw[hb];replace hb:=Xi hb;replace hI:=Xi hI;exact aY;all_goals exact aO.refl _
theorem El [Flo](s:Sbn)(x:Int):ai prog 241 [.agg (aT s),.v (.int .i64 x)] (.v (.bool (jD s.at_ x))):=by
 have hh:ai prog 224 [.agg (aS s.at_),.v (.int .i64 x)] (.v (.bool (lM s.at_.at_ s.at_.len x))):=Ki s.at_ x;cases h1:lM s.at_.at_ s.at_.len x with
 |false=>
  have hr:jD s.at_ x=false:=by unfold jD;rw[px,h1];rfl
  rw[h1]at hh;rw[hr];refine pj func241 ntmps241 results241 ?_;exact aY;all_goals exact aO.refl _
 |true=>
  have FK:=nu.1 h1;have oJ:=M4 s.at_ (by rw[<-Pfx.right];exact FK.1);have a1a:lL s.at_.at_ s.at_.len=s.at_.hi - 1:=rfl;have hr:jD s.at_ x=((x !=s.at_.at_)&&(x !=s.at_.hi - 1)):=by
   unfold jD;rw[px,h1,Yp,Yi];have:s.at_.hi=s.at_.at_+eV s.at_.len:=rfl;simp only[Xv,decide_eq_true_eq,bne_iff_ne];omega
  rw[a1a]at oJ;rw[h1]at hh;rw[hr];have oJ:ai prog 190 [.agg (aS s.at_)] (.v (.int .i64 (s.at_.hi - 1))):=oJ;generalize s.at_.hi - 1=Z at*;cases h2:(x !=s.at_.at_)with
  |false=>exact a4d
  |true=>exact a4d
theorem Kn [Flo](v:Vpc)(hl:v.subs.length<=9223372036854775807)(hf:∀s∈v.subs,s.faces.length<=9223372036854775807):ai prog 191 [.agg (au v)] (.v (.bool (lP v))):=by
 obtain⟨R,hR⟩:∃R,R=lP v:=⟨_,rfl⟩;rw[<-hR];replace hR:=Xi hR;unfold lP at hR;cases h1:decide ((v.ranges.length:Int)>4)with
 |true=>
  have hb:R=true:=by rw[hR.out,h1];rfl
  rw[hb];replace hb:=Xi hb;refine pj func191 ntmps191 results191 ?_;exact aY;all_goals exact aO.refl _
 |false=>
  cases h2:decide ((v.subs.length:Int)>6)with
  |true=>
   have hb:R=true:=by rw[hR.out,h1,h2];rfl
   rw[hb];replace hb:=Xi hb;refine pj func191 ntmps191 results191 ?_;exact aY;all_goals exact aO.refl _
  |false=>
   have aR:R=v.subs.any oM:=by rw[hR.out,h1,h2];rfl
   clear hR;replace aR:=Xi aR;refine pj func191 ntmps191 results191 ?_;refine aq ?_<;>intros;refine bq ag am v.subs (fun k=>(v.subs.take k).all (fun s=>!(oM s))=true) (fun k=>[(3,.d (.v (.int .i64 k))),(2,.d (.v (.bool false))),(1,.ptr 0 0)]) (fun _=>[.box 55 ((au v).map .d)]) rfl (wf) ?_ ?_
   ·intro k s hs hk hI C hC;have dF:(k:Int) < (v.subs.length:Int):=aa;have cX:=wi k aa;have ip:=hf s (Xk hs);have hmn:oM s=true->R=true:=fun h=>by rw[aR.out];exact XR.2 ⟨s,Xk hs,h⟩
    have dN:oM s=false->(v.subs.take (k+1)).all (fun s=>!(oM s))=true:=fun h=>en hs hI (by rw[h];rfl);have U7:oM s=(decide ((s.faces.length:Int)>8)||s.faces.any qH):=rfl;replace hI:=Xi hI;replace dN:=Xi dN;cases h3:decide ((s.faces.length:Int)>8)with
    |true=>
     have hb:R=true:=hmn (by rw[U7,h3];rfl);rw[hb];replace hb:=Xi hb;clear hmn U7;exact aY;all_goals exact aO.refl _
    |false=>
     rw[h3,ZY]at U7;replace hmn:=Xi hmn;replace U7:=Xi U7;refine aq ?_<;>intros;refine bq ag am s.faces (fun j=>(s.faces.take j).all (fun f=>!(qH f))=true) (fun j=>[(4,.d (.v (.int .i64 j))),(3,.d (.v (.int .i64 k))),(2,.d (.v (.bool false))),(1,.ptr 0 0)]) (fun _=>[.box 55 ((au v).map .d)]) rfl (wf) ?_ ?_
     ·intro j f hfj hj hJ C2 jU;have lh:(j:Int) < (s.faces.length:Int):=aa;have mW:=wi j aa;replace hJ:=Xi hJ;cases h4:decide ((f.addrs.length:Int)>4)with
      |true=>
       have hb:R=true:=hmn.out (by rw[U7.out];exact XR.2 ⟨f,Xk hfj,h4⟩);rw[hb];replace hb:=Xi hb;exact aY;all_goals exact aO.refl _
      |false=>
       have Di:=Xi (en (p:=fun f:Fce=>!(qH f)) hfj hJ.out (by unfold qH;rw[h4];rfl));refine aq ?_<;>intros;exact jU _ _ Di.out (wf)
     ·intro hJ C2;rw[Xq]at hJ;have mY:=dN.out (by rw[U7.out,Yh];intro x hx;have:=XD.1 hJ x hx;simpa using this);replace hJ:=Xi hJ;replace mY:=Xi mY;refine aq ?_<;>intros;exact hC _ _ mY.out (wf)
   ·intro hI C;rw[Xq]at hI;have hb:R=false:=by rw[aR.out,Yh];intro x hx;have:=XD.1 hI x hx;simpa using this
    rw[hb];replace hb:=Xi hb;replace hI:=Xi hI;exact aY;all_goals exact aO.refl _
theorem a2j {p:Prop}(h:p:=by
 rw[YB,ne_eq,eZ];intro hr;obtain⟨hl,he⟩:=Xm.1 hy;obtain⟨U8,he1⟩:=Xm.1 hx;have h1:=hr (k - 1) aa;simp only[show k - 1+1=k by omega,he,he1]at h1;omega):p:=h
theorem a2Y {p:Prop}(h:p:=by
 intro j hj CY;rcases XL (j+1) k with h1|h1
 ·exact h j hj h1
 ·obtain rfl:k=j+1:=aa;obtain⟨hl,he⟩:=Xm.1 hy;rw[he];exact hs _ aa (Xj aa)):p:=h
theorem GJ {s:Sbn}{f:Fce}(hf:f∈s.faces)(h:lQ s.at_ f=false):dJ s=false:=by
 unfold dJ;rw[show s.faces.all (lQ s.at_)=false from by rw[Y2];exact⟨f,hf,by rw[h];simp⟩];rfl
theorem Em {s:Sbn}{k:Nat}{x y:Fce}(h0:0 < k)(hx:s.faces[k - 1]? =some x)(hy:s.faces[k]? =some y)(h:x.id>=y.id):dJ s=false:=by
 have:fJ (fun f:Fce=>f.id) s.faces=false:=a2j
 unfold dJ;simp only[this,Bool.and_false]
theorem GK {p:Pfx}{f:Fce}{k:Nat}{x y:Int}(h0:0 < k)(hx:f.addrs[k - 1]? =some x)(hy:f.addrs[k]? =some y)(h:x>=y):lQ p f=false:=by
 have:fJ (fun x=>x) f.addrs=false:=a2j
 unfold lQ;simp[this]
theorem GL {s:Sbn}{k:Nat}{f:Fce}{a:Int}(hf:s.faces[k]? =some f)(ha:a∈f.addrs)(hd:a∈(s.faces.take k).flatMap (·.addrs)):dJ s=false:=by
 have:¬(s.faces.flatMap (·.addrs)).Nodup:=by
  intro hn;rw[<-YV k s.faces,kJ hf,Zu,List.flatMap_cons,Z']at hn;exact hn.2.2 a hd a (ZS _ ha) rfl
 unfold dJ;simp[this]
theorem xJ {α:Type}{key:α->Int}{l:List α}{k:Nat}{y:α}(hy:l[k]? =some y)(h:∀j (h:j+1 < l.length),j+1 < k->key l[j] < key l[j+1])(hs:∀x,0 < k->l[k - 1]? =some x->key x < key y):∀j (h:j+1 < l.length),j+1 < k+1->key l[j] < key l[j+1]:=a2Y
theorem En [Flo](s:Sbn)(h8:s.faces.length<=8)(h4:∀f∈s.faces,f.addrs.length<=4):ai prog 193 [.agg (aT s)] (.v (.bool (dJ s))):=by
 obtain⟨R,hR⟩:∃R,R=dJ s:=⟨_,rfl⟩;rw[<-hR];replace hR:=Xi hR;refine pj func193 ntmps193 results193 ?_;refine aq ?_<;>intros;refine bL ag am (fun m e h=>∃(k g:Nat) (A:List Int),k<=s.faces.length/\A=(s.faces.take k).flatMap (·.addrs)/\A.length<=4*k/\A.Nodup/\(s.faces.take k).all (lQ s.at_)=true/\(∀j (h:j+1 < s.faces.length),j+1 < k->s.faces[j].id < s.faces[j+1].id)/\m=s.faces.length - k/\
  e=[(4,.d (.v (.int .i64 k))),(3,.own 1 g),(2,.d (.v (.bool false))),(1,.ptr 0 0)]/\h=[.box 71 ((aT s).map .d),.row 3 1 g (ab (A.map cm))]) _ _ _ ⟨0,0,[],XE _,rfl,XE _,List.nodup_nil,rfl,fun j h h1=>by omega,rfl,rfl,rfl⟩ ((du (XE _) 3 3 1 rfl).trans (wf)) ?_
 rintro m e h ⟨k,g,A,hk,hA,hAl,ml,bO,C6,hm,rfl,rfl⟩ C hC;replace hm:=Xi hm;replace hA:=Xi hA;replace ml:=Xi ml;replace bO:=Xi bO;replace C6:=Xi C6;by_cases hlt:k < s.faces.length
 ·have dF:(k:Int) < (s.faces.length:Int):=aa;have cX:=wi k aa;have CZ:decide ((k:Int)>0)=true->IntKind.i64.wrap ((k:Int) - 1)=((k - 1:Nat):Int):=fun h=>by have:=of_decide_eq_true h;rw[IntKind.wrap_i64];omega
  obtain⟨f,hf⟩:∃f,s.faces[k]? =some f:=⟨_,Xj hlt⟩;obtain⟨y,hy⟩:∃y,s.faces[k - 1]? =some y:=⟨_,Xj aa⟩;have FJ:=Xk hf;have ip:=h4 f FJ;have hw:ai prog 75 [.v (.int .i64 f.id),.v (.int .i64 1),.v (.int .i64 65536)] (.v (.bool (cD f.id))):=gI _ _ _;have vQ:(0 < k/\y.id>=f.id)->R=false:=fun h=>by rw[hR.out];exact Em h.1 hy hf h.2
  have Ah:lQ s.at_ f=false->R=false:=fun h=>by rw[hR.out];exact GJ FJ h
  have U9:∀a∈f.addrs,a∈A->R=false:=fun a h1 h2=>by rw[hR.out];exact GL hf h1 (by rw[<-hA.out];exact h2)
  have iI:lQ s.at_ f=(cD f.id&&(!((f.addrs.length:Int)==0)&&(fJ (fun x=>x) f.addrs&&f.addrs.all (jD s.at_)))):=rfl;replace vQ:=Xi vQ;replace Ah:=Xi Ah;replace U9:=Xi U9;replace iI:=Xi iI;cases b1:cD f.id with
  |false=>
   have hr:R=false:=Ah.out (by rw[iI.out,b1];rfl);rw[b1]at hw;rw[hr];replace hr:=Xi hr;exact aY;all_goals exact aO.refl _
  |true=>
   rw[b1]at hw;cases b2:((f.addrs.length:Int)==0)with
   |true=>
    have hr:R=false:=Ah.out (by rw[iI.out,b1,b2];rfl);rw[hr];replace hr:=Xi hr;exact aY;all_goals exact aO.refl _
   |false=>
    refine fl ?_ ?_ ?_ ?_ ?_ ?_ ?_ ?_<;>first|(with_reducible exact True.intro)|intros
    all_goals first
     |(exact Ip (vQ.out (by clear hw hC;grind)).symm)
     |skip
    all_goals
     have dN:0 < k->y.id < f.id:=by clear hw hC;grind
     replace dN:=Xi dN;refine bL ag am (fun m e h=>∃(j:Nat),j<=f.addrs.length/\(f.addrs.take j).all (jD s.at_)=true/\(∀i (h:i+1 < f.addrs.length),i+1 < j->f.addrs[i] < f.addrs[i+1])/\(f.addrs.take j).all (fun a=>!(A.contains a))=true/\m=f.addrs.length - j/\
      e=[(6,.d (.v (.int .i64 j))),(5,.ptr 2 0),(4,.d (.v (.int .i64 k))),(3,.own 1 g),(2,.d (.v (.bool false))),(1,.ptr 0 0)]/\h=[.box 71 ((aT s).map .d),.row 3 1 g (ab (A.map cm)),.box 74 ((bR f).map .d)]) _ _ _ ⟨0,XE _,rfl,fun j h h1=>by omega,rfl,rfl,rfl,rfl⟩ (wf) ?_
     rintro m2 e h ⟨j,hj,dM,Pr,bQ,iL,rfl,rfl⟩ C2 jU;replace iL:=Xi iL;replace dM:=Xi dM;replace Pr:=Xi Pr;replace bQ:=Xi bQ;by_cases qt:j < f.addrs.length
     ·have lh:(j:Int) < (f.addrs.length:Int):=aa;have mW:=wi j aa;have Ai:decide ((j:Int)>0)=true->IntKind.i64.wrap ((j:Int) - 1)=((j - 1:Nat):Int):=fun h=>by have:=of_decide_eq_true h;rw[IntKind.wrap_i64];omega
      obtain⟨a,ha⟩:∃a,f.addrs[j]? =some a:=⟨_,Xj qt⟩;obtain⟨b,hb⟩:∃b,f.addrs[j - 1]? =some b:=⟨_,Xj aa⟩;have ham:=Xk ha;have SE:=El s a;have Ae:(0 < j/\b>=a)->R=false:=fun h=>Ah.out (GK h.1 hb ha h.2);replace Ae:=Xi Ae;cases b3:jD s.at_ a with
      |false=>
       have hr:R=false:=Ah.out (by rw[iI.out,show f.addrs.all (jD s.at_)=false from by rw[Y2];exact⟨a,ham,by rw[b3];simp⟩];simp);rw[b3]at SE;rw[hr];replace hr:=Xi hr;exact aY;all_goals exact aO.refl _
      |true=>
       rw[b3]at SE;refine fl ?_ ?_ ?_ ?_ ?_ ?_ ?_ ?_<;>first|(with_reducible exact True.intro)|intros
       all_goals first
        |(exact Ip (Ae.out (by clear hw hC jU SE;grind)).symm)
        |skip
       all_goals
        have BC:0 < j->b < a:=by clear hw hC jU SE;grind
        replace BC:=Xi BC;refine bq ag am A (fun q=>(A.take q).all (fun x=>!(x==a))=true) (fun q=>[(7,.d (.v (.int .i64 q))),(6,.d (.v (.int .i64 j))),(5,.ptr 2 0),(4,.d (.v (.int .i64 k))),(3,.own 1 g),(2,.d (.v (.bool false))),(1,.ptr 0 0)])
         (fun _=>[.box 71 ((aT s).map .d),.row 3 1 g (ab (A.map cm)),.box 74 ((bR f).map .d)]) rfl (wf) ?_ ?_
        ·intro q x hx hq hQ C3 P8;have hqI:(q:Int) < (A.length:Int):=aa;have jN:=wi q aa;replace hQ:=Xi hQ;cases b4:(x==a)with
         |true=>
          have hr:R=false:=U9.out a ham (by rw[<-eq_of_beq b4];exact Xk hx);rw[hr];replace hr:=Xi hr;exact aY;all_goals exact aO.refl _
         |false=>
          have hQ2:=Xi (en (p:=fun x:Int=>!(x==a)) hx hQ.out (by rw[b4];rfl));repeat' (first|(with_reducible refine And.intro ?_ ?_)|(with_reducible refine og (fun _=>?_) (fun _=>?_))|(with_reducible refine ef (fun _=>?_) (fun _=>?_))|(with_reducible refine jA aK)|simp -dsimp only[go_sem,seval, *,aT,bR,cm,hqI,jN,ha,hx,b4,undef]|((with_reducible refine jB ?_);simp -dsimp only[go_sem,seval,aT,bR,cm,hqI,jN,ha,hx,b4,undef];first|refine ei L8 mR ?_|(refine eh gR ?_ ?_ ?_;(solve|(repeat(first|exact aO.refl _|exact aO.nil _|(refine aO.tup ?_)|(refine aO.agg ?_ rfl)|exact trivial|(refine And.intro ?_ ?_))));(solve|exact .inl rfl|exact .inr rfl)))|fail|omega|exact decide_eq_true aa|exact aO.refl _)
          exact P8 _ _ hQ2.out (wf)
        ·intro hQ C3;rw[Xq]at hQ;have P9:A.contains a=false:=by
          rw[YB,ne_eq,ZO];intro hm;have:=XD.1 hQ a hm;simp at this
         replace hQ:=Xi hQ;replace P9:=Xi P9;refine aq ?_<;>intros;refine jU _ _ _ _ _ ?_ ⟨j+1,qt,en ha dM.out b3,xJ (key:=fun x:Int=>x) ha Pr.out (fun x h0 hx=>by rw[hb]at hx;rw[<-XU.inj hx];exact BC.out h0),en ha bQ.out (by rw[P9.out];rfl),rfl,rfl,rfl⟩ (wf);have:=iL.out;omega
     ·obtain rfl:j=f.addrs.length:=aa;have dM:=dM.out;have bQ:=bQ.out;rw[Xq]at dM bQ;have mB:lQ s.at_ f=true:=by
       rw[iI.out,b1,b2,dM,(eZ f.addrs).2 (fun i hi=>Pr.out i hi aa)];rfl
      have L5:A++f.addrs=(s.faces.take (k+1)).flatMap (·.addrs):=by rw[aj hf,Zu,<-hA.out];simp
      have SF:f.addrs.Nodup:=by
       have h1:=(gG (key:=fun x:Int=>x) f.addrs).1 ((eZ f.addrs).2 (fun i hi=>Pr.out i hi aa));exact h1.imp (fun h=>by omega)
      have za:(A++f.addrs).Nodup:=by
       rw[Z'];refine⟨ml.out,SF,fun x hx y hy e=>?_⟩;subst e;have:=XD.1 bQ x hy;rw[ZO.2 hx]at this;simp at this
      have wg:(A.length+f.addrs.length)*8<=140737488355328:=aa;replace bQ:=Xi bQ;replace dM:=Xi dM;replace mB:=Xi mB;replace L5:=Xi L5;replace SF:=Xi SF;replace za:=Xi za;refine aq ?_<;>intros;refine hC _ _ _ _ _ ?_ ⟨k+1,g+1,A++f.addrs,hlt,L5.out,by rw[XV];omega,za.out,en hf bO.out mB.out,xJ (key:=fun f:Fce=>f.id) hf C6.out (fun x h0 hx=>by rw[hy]at hx;rw[<-XU.inj hx];exact dN.out h0),rfl,rfl,rfl⟩ (wf (hh:=(by simp only[aT,bR,Xn,Xl,Xp,<-aI];rfl)));have:=hm.out;omega
 ·obtain rfl:k=s.faces.length:=aa;have hr:R=true:=by
   have bO:=bO.out;have hA:=hA.out;rw[Xq]at bO hA;rw[hR.out];unfold dJ;rw[bO,<-hA,(eZ s.faces).2 (fun i hi=>C6.out i hi aa)];simp[ml.out]
  rw[hr];replace hr:=Xi hr;exact aY;all_goals exact aO.refl _
theorem Eo:∀(pre l:List Pfx),hO pre l=true↔l.Pairwise (fun a b=>b.meets a=false)/\∀a∈pre,∀b∈l,b.meets a=false
 |pre,[]=>by simp[hO]
 |pre,p::l=>by
  simp only[hO,Xv,Zq,Yh,ZM,Eo (pre++[p]) l,YA,X0,XY,Zn,or_false];constructor
  ·rintro⟨h1,h2,h3⟩;refine⟨⟨fun b hb=>h3 p (.inr rfl) b hb,h2⟩,fun a ha b hb=>?_⟩;rcases hb with rfl|hb
   ·exact h1 a ha
   ·exact h3 a (.inl ha) b hb
  ·rintro⟨⟨h1,h2⟩,h3⟩;refine⟨fun x hx=>h3 x hx p (.inl rfl),h2,fun a ha b hb=>?_⟩;rcases ha with ha|rfl
   ·exact h3 a ha b (.inr hb)
   ·exact h1 b hb
theorem pz {l:List Pfx}:hO [] l=true↔l.Pairwise (fun a b=>b.meets a=false):=by
 rw[Eo];simp
theorem Nb {l:List Pfx}(hr:∀p∈l,p.right=true)(hs:l.Pairwise fun a b=>a.at_ < b.at_)(ha:∀j (h:j+1 < l.length),l[j].meets l[j+1]=false):hO [] l=true:=by
 rw[pz,XH];intro i j hi hj hij;rw[YB,ne_eq,dY];rintro⟨-,-,h1,h2⟩;have h3:=ha i aa;have r1:=hr l[i] (Yl hi);have r2:=hr l[i+1] (Yl aa);rw[YB,ne_eq,dY]at h3;have s1:=XH.1 hs i (i+1) hi aa aa;have s2:l[i+1].at_<=l[j].at_:=by
  rcases XL (i+1) j with h|h
  ·have:=XH.1 hs (i+1) j aa hj h;omega
  ·obtain rfl:j=i+1:=aa;exact ZJ _
 have b2:=l[i+1].hi_bd r2;exact h3 ⟨r1,r2,by omega,by omega⟩
theorem Nc {v:Vpc}(hm:lP v=false)(h:qI v=false\/hO [] (v.ranges.map (·.at_))=false\/hO [] (v.subs.map (·.at_))=false):bM v=1:=by
 unfold bM;rw[af (by simp[hm]),af];rintro h1;simp only[Xv]at h1;rcases h with h|h|h<;>simp[h]at h1
theorem Ep {l:List Pfx}{i j:Nat}{x y:Pfx}(hij:i < j)(hx:l[i]? =some x)(hy:l[j]? =some y)(h:x.meets y=true):hO [] l=false:=by
 rw[YB,ne_eq,pz];intro hp;obtain⟨h1,rfl⟩:=Xm.1 hx;obtain⟨h2,rfl⟩:=Xm.1 hy;have:=XH.1 hp i j h1 h2 hij;rw[<-fI]at this h;unfold oL at this h;grind
theorem Er {α:Type}{key:α->Int}{l:List α}{k:Nat}{x y:α}(h0:0 < k)(hx:l[k - 1]? =some x)(hy:l[k]? =some y)(h:key x>=key y):fJ key l=false:=a2j
theorem Iu {α:Type}{p:α->Bool}{l:List α}{x:α}(hx:x∈l)(h:p x=false):l.all p=false:=by
 rw[Y2];exact⟨x,hx,by rw[h];simp⟩
theorem nz {v:Vpc}(h:cD v.id=false\/fJ (fun r:Rng=>r.at_.at_) v.ranges=false\/fJ (fun s:Sbn=>s.id) v.subs=false\/v.ranges.all eR=false\/v.subs.all (nx v)=false):qI v=false:=by
 unfold qI;rcases h with h|h|h|h|h<;>simp[h]
theorem Es {l:List Rng}{k:Nat}{y:Rng}(hy:l[k]? =some y)(h:∀j (h:j+1 < l.length),j+1 < k->l[j].at_.at_ < l[j+1].at_.at_/\l[j].at_.meets l[j+1].at_=false)(hs:∀x,0 < k->l[k - 1]? =some x->x.at_.at_ < y.at_.at_/\x.at_.meets y.at_=false):∀j (h:j+1 < l.length),j+1 < k+1->l[j].at_.at_ < l[j+1].at_.at_/\l[j].at_.meets l[j+1].at_=false:=a2Y
theorem Ko {v:Vpc}(hm:lP v=false)(h1:cD v.id=true)(h2:v.ranges.all eR=true)(h3:∀j (h:j+1 < v.ranges.length),v.ranges[j].at_.at_ < v.ranges[j+1].at_.at_/\v.ranges[j].at_.meets v.ranges[j+1].at_=false)(h4:v.subs.all (nx v)=true)(h5:∀j (h:j+1 < v.subs.length),v.subs[j].id < v.subs[j+1].id)(h6:∀(i j:Nat) (x y:Sbn),i < j->v.subs[i]? =some x->v.subs[j]? =some y->x.at_.meets y.at_=false):bM v=0:=by
 have r1:fJ (fun r:Rng=>r.at_.at_) v.ranges=true:=(eZ v.ranges).2 fun j hj=>(h3 j hj).1;have r2:fJ (fun s:Sbn=>s.id) v.subs=true:=(eZ v.subs).2 h5;rw[Na];refine⟨hm,by unfold qI;rw[h1,r1,r2,h2,h4];rfl,?_,?_⟩
 ·refine Nb (fun p hp=>?_) ?_ fun j hj=>?_
  ·obtain⟨r,hr,rfl⟩:=XF.1 hp;exact lu (XD.1 h2 r hr)
  ·rw[Y3];exact(gG v.ranges).1 r1
  ·simp only[Xs]at hj;simp only[I'];exact(h3 j hj).2
 ·rw[pz,Y3,XH];intro i j hi hj hij;have:=h6 i j _ _ hij (Xj hi) (Xj hj);rw[<-fI]at this ⊢;unfold oL at this ⊢;grind
theorem ic [Flo](v:Vpc)(hl:v.subs.length<=9223372036854775807)(hf:∀s∈v.subs,s.faces.length<=9223372036854775807):ai prog 107 [.agg (au v)] (.v (.int .i64 (bM v))):=by
 have zc:=Kn v hl hf;clear hl hf;cases hm:lP v with
 |true=>
  rw[hm]at zc;have hr:bM v=2:=by unfold bM;rw[ah hm]
  rw[hr];refine pj func107 ntmps107 results107 ?_;exact aY
 |false=>
 obtain⟨h4,h6,h8⟩:=xF hm;rw[hm]at zc;have hid:ai prog 75 [.v (.int .i64 v.id),.v (.int .i64 1),.v (.int .i64 65536)] (.v (.bool (cD v.id))):=gI _ _ _;have eO:=Xi (fun h=>Nc hm h);have a0b:=Xi (fun a b c d e f=>Ko hm a b c d e f);replace h8:=Xi h8;replace hm:=Xi hm;obtain⟨R,hR⟩:∃R,R=bM v:=⟨_,rfl⟩;rw[<-hR];replace hR:=Xi hR;cases b1:cD v.id with
 |false=>
  have hr:R=1:=by rw[hR.out];exact eO.out (.inl (nz (.inl b1)))
  rw[b1]at hid;rw[hr];replace hr:=Xi hr;refine pj func107 ntmps107 results107 ?_;exact aY
 |true=>
 rw[b1]at hid;refine pj func107 ntmps107 results107 ?_;refine aq ?_<;>intros;clear zc hid;refine bL ag am (fun m e h=>∃(k:Nat),k<=v.ranges.length/\(v.ranges.take k).all eR=true/\(∀j (h:j+1 < v.ranges.length),j+1 < k->v.ranges[j].at_.at_ < v.ranges[j+1].at_.at_/\v.ranges[j].at_.meets v.ranges[j+1].at_=false)/\m=v.ranges.length - k/\e=[(3,.d (.v (.int .i64 k))),(2,.d (.v (.int .i64 0))),(1,.ptr 0 0)]/\
  h=[.box 55 ((au v).map .d)]) _ _ _ ⟨0,XE _,rfl,fun j h h1=>by omega,rfl,rfl,rfl⟩ (wf) ?_
 rintro m e h ⟨k,hk,bO,LI,hm0,rfl,rfl⟩ C hC;replace hm0:=Xi hm0;replace bO:=Xi bO;replace LI:=Xi LI;by_cases hlt:k < v.ranges.length
 ·have dF:(k:Int) < (v.ranges.length:Int):=aa;have cX:=wi k aa;have CZ:decide ((k:Int)>0)=true->IntKind.i64.wrap ((k:Int) - 1)=((k - 1:Nat):Int):=fun h=>by have:=of_decide_eq_true h;rw[IntKind.wrap_i64];omega
  obtain⟨r,hr⟩:∃r,v.ranges[k]? =some r:=⟨_,Xj hlt⟩;obtain⟨y,hy⟩:∃y,v.ranges[k - 1]? =some y:=⟨_,Xj aa⟩;have wG:=Xk hr;have hw:ai prog 75 [.v (.int .i64 r.pool),.v (.int .i64 1),.v (.int .i64 65536)] (.v (.bool (cD r.pool))):=gI _ _ _;have FK:ai prog 189 [.agg (aS r.at_)] (.v (.bool (chk r.at_.at_ r.at_.len==0))):=xD r.at_;have o0:=rl y.at_ r.at_;rw[fI]at o0;have qy:eR r=(cD r.pool&&(chk r.at_.at_ r.at_.len==0)):=rfl;have bE:eR r=false->R=1:=fun h=>by rw[hR.out];exact eO.out (.inl (nz (.inr (.inr (.inr (.inl (Iu wG h)))))))
  have vQ:0 < k/\y.at_.at_>=r.at_.at_->R=1:=fun h=>by rw[hR.out];exact eO.out (.inl (nz (.inr (.inl (Er (key:=fun r:Rng=>r.at_.at_) h.1 hy hr h.2)))))
  have L6:0 < k/\y.at_.meets r.at_=true->R=1:=fun h=>by
   rw[hR.out];exact eO.out (.inr (.inl (Ep (i:=k - 1) (j:=k) aa (by rw[Xr,hy];rfl) (by rw[Xr,hr];rfl) h.2)))
  replace bE:=Xi bE;replace vQ:=Xi vQ;replace L6:=Xi L6;cases b2:eR r with
  |false=>
   have h1:R=1:=bE.out b2;rw[b2]at qy;rw[h1];replace h1:=Xi h1;cases b3:cD r.pool with
   |false=>
    rw[b3]at hw;clear qy;exact aY;all_goals exact aO.refl _
   |true=>
    rw[b3,Yp]at qy;rw[b3]at hw;have b4:=qy.symm;rw[b4]at FK;clear qy;replace b4:=Xi b4;exact aY;all_goals exact aO.refl _
  |true=>
   rw[b2]at qy;obtain⟨b3,b4⟩:=Bool.and_eq_true_iff.1 qy.symm;rw[b3]at hw;rw[b4]at FK;clear qy;replace b3:=Xi b3;replace b4:=Xi b4;cases b5:y.at_.meets r.at_ with
   |true=>
    rw[b5]at o0;refine fl ?_ ?_ ?_ ?_ ?_ ?_ ?_ ?_<;>first|(with_reducible exact True.intro)|intros
    all_goals first
     |(exact sH (L6.out (by clear hw hC FK o0;grind)).symm)
     |(refine hC _ _ _ _ _ ?_ ⟨k+1,hlt,en hr bO.out b2,Es hr LI.out (fun x h0 hx=>?_),rfl,rfl,rfl⟩ (wf);(have:=hm0.out;omega);exfalso;clear hw hC FK o0;grind)
   |false=>
    rw[b5]at o0;refine fl ?_ ?_ ?_ ?_ ?_ ?_ ?_ ?_<;>first|(with_reducible exact True.intro)|intros
    all_goals first
     |(exact sH (vQ.out (by clear hw hC FK o0;grind)).symm)
     |(refine hC _ _ _ _ _ ?_ ⟨k+1,hlt,en hr bO.out b2,Es hr LI.out (fun x h0 hx=>?_),rfl,rfl,rfl⟩ (wf);(have:=hm0.out;omega);rw[hy]at hx;rw[<-XU.inj hx];exact⟨by clear hw hC FK o0;grind,b5⟩)
 ·obtain rfl:k=v.ranges.length:=aa;have bO:=bO.out;rw[Xq]at bO;have a0c:=Xi (fun j hj=>LI.out j hj aa);replace bO:=Xi bO;clear LI;refine aq ?_<;>intros;refine bL ag am (fun m e h=>∃(k:Nat),k<=v.subs.length/\(v.subs.take k).all (nx v)=true/\(∀j (h:j+1 < v.subs.length),j+1 < k->v.subs[j].id < v.subs[j+1].id)/\(∀(i j:Nat) (x y:Sbn),i < j->j < k->v.subs[i]? =some x->v.subs[j]? =some y->x.at_.meets y.at_=false)/\m=v.subs.length - k/\e=[(5,.d (.v (.int .i64 k))),(2,.d (.v (.int .i64 0))),(1,.ptr 0 0)]/\
   h=[.box 55 ((au v).map .d)]) _ _ _ ⟨0,XE _,rfl,fun j h h1=>by omega,fun i j x y h1 h2=>by omega,rfl,rfl,rfl⟩ (wf) ?_
  rintro m2 e h ⟨k,jq,mn,C6,SG,iL,rfl,rfl⟩ C2 jU;replace iL:=Xi iL;replace mn:=Xi mn;replace C6:=Xi C6;replace SG:=Xi SG;by_cases C7:k < v.subs.length
  ·have dF:(k:Int) < (v.subs.length:Int):=aa;have cX:=wi k aa;have CZ:decide ((k:Int)>0)=true->IntKind.i64.wrap ((k:Int) - 1)=((k - 1:Nat):Int):=fun h=>by have:=of_decide_eq_true h;rw[IntKind.wrap_i64];omega
   obtain⟨s,hs⟩:∃s,v.subs[k]? =some s:=⟨_,Xj C7⟩;obtain⟨y,hy⟩:∃y,v.subs[k - 1]? =some y:=⟨_,Xj aa⟩;have mQ:=Xk hs;have hw:ai prog 75 [.v (.int .i64 s.id),.v (.int .i64 1),.v (.int .i64 65536)] (.v (.bool (cD s.id))):=gI _ _ _;have Ps:=A0 v s.at_ aa;have SH:=En s (h8.out s mQ).1 (h8.out s mQ).2;have Ag:nx v s=(cD s.id&&(fW v s.at_&&dJ s)):=rfl;have bE:nx v s=false->R=1:=fun h=>by rw[hR.out];exact eO.out (.inl (nz (.inr (.inr (.inr (.inr (Iu mQ h)))))))
   have vQ:0 < k/\y.id>=s.id->R=1:=fun h=>by rw[hR.out];exact eO.out (.inl (nz (.inr (.inr (.inl (Er (key:=fun s:Sbn=>s.id) h.1 hy hs h.2))))))
   have L6:∀(j:Nat) (x:Sbn),j < k->v.subs[j]? =some x->x.at_.meets s.at_=true->R=1:=fun j x hj hx h=>by
    rw[hR.out];exact eO.out (.inr (.inr (Ep (i:=j) (j:=k) hj (by rw[Xr,hx];rfl) (by rw[Xr,hs];rfl) h)))
   replace bE:=Xi bE;replace vQ:=Xi vQ;replace L6:=Xi L6;replace Ag:=Xi Ag;cases b3:cD s.id with
   |false=>
    have h1:R=1:=bE.out (by rw[Ag.out,b3];rfl);rw[h1];replace h1:=Xi h1;rw[b3]at hw;exact aY;all_goals exact aO.refl _
   |true=>
    rw[b3]at hw;cases b4:fW v s.at_ with
    |false=>
     have h1:R=1:=bE.out (by rw[Ag.out,b3,b4];rfl);rw[h1];replace h1:=Xi h1;rw[b4]at Ps;exact aY;all_goals exact aO.refl _
    |true=>
     rw[b4]at Ps;cases b5:dJ s with
     |false=>
      have h1:R=1:=bE.out (by rw[Ag.out,b3,b4,b5];rfl);rw[h1];replace h1:=Xi h1;rw[b5]at SH;exact aY;all_goals exact aO.refl _
     |true=>
      rw[b5]at SH;have b6:nx v s=true:=by rw[Ag.out,b3,b4,b5];rfl
      replace b6:=Xi b6;refine fl ?_ ?_ ?_ ?_ ?_ ?_ ?_ ?_<;>first|(with_reducible exact True.intro)|intros
      all_goals first
       |(exact sH (vQ.out (by clear hw hC jU Ps SH;grind)).symm)
       |skip
      all_goals
       have dN:0 < k->y.id < s.id:=by clear hw hC jU Ps SH;grind
       replace dN:=Xi dN;refine so ag am k (fun j=>∀(i:Nat) (x:Sbn),i < j->v.subs[i]? =some x->x.at_.meets s.at_=false) (fun j=>[(7,.d (.v (.int .i64 j))),(6,.ptr 1 0),(5,.d (.v (.int .i64 k))),(2,.d (.v (.int .i64 0))),(1,.ptr 0 0)]) (fun _=>[.box 55 ((au v).map .d),.box 71 ((aT s).map .d)]) (fun i x h=>absurd h (Yy _)) (wf) ?_ ?_
       ·intro j CY hJ C3 P8;have lh:(j:Int) < (k:Int):=aa;have mW:=wi j aa;obtain⟨x,hx⟩:∃x,v.subs[j]? =some x:=⟨_,Xj aa⟩;have o0:=rl x.at_ s.at_;rw[fI]at o0;cases b7:x.at_.meets s.at_ with
        |true=>
         have h1:R=1:=L6.out j x CY hx b7;rw[h1];replace h1:=Xi h1;replace hJ:=Xi hJ;rw[b7]at o0;exact aY;all_goals exact aO.refl _
        |false=>
         have Di:∀(i:Nat) (x:Sbn),i < j+1->v.subs[i]? =some x->x.at_.meets s.at_=false:=by
          intro i x' hi hx';rcases XL i j with h|h
          ·exact hJ i x' h hx'
          ·obtain rfl:i=j:=aa;rw[hx]at hx';rw[<-XU.inj hx'];exact b7
         replace Di:=Xi Di;replace hJ:=Xi hJ;rw[b7]at o0;refine aq ?_<;>intros;exact P8 _ _ Di.out (wf)
       ·intro hJ C3;replace hJ:=Xi hJ;refine aq ?_<;>intros;refine jU _ _ _ _ _ ?_ ⟨k+1,C7,en hs mn.out b6.out,xJ (key:=fun s:Sbn=>s.id) hs C6.out (fun x h0 hx=>by rw[hy]at hx;rw[<-XU.inj hx];exact dN.out h0),fun i j x z h1 h2 hx hz=>?_,rfl,rfl,rfl⟩ (wf)
        ·have:=iL.out;omega
        ·rcases XL j k with h|h
         ·exact SG.out i j x z h1 h hx hz
         ·obtain rfl:j=k:=aa;rw[hs]at hz;rw[<-XU.inj hz];exact hJ.out i x h1 hx
  ·obtain rfl:k=v.subs.length:=aa;have h1:R=0:=by
    have mn:=mn.out;rw[Xq]at mn;rw[hR.out];refine a0b.out b1 bO.out a0c.out mn (fun j hj=>C6.out j hj aa) (fun i j x y hij hx hy=>SG.out i j x y hij ?_ hx hy);exact(Xm.1 hy).1
   rw[h1];replace h1:=Xi h1;exact aY;all_goals exact aO.refl _
def lS (ents:List (List Int × Int)):Nat->Int->Int->Prop
 |0,x,r=>lB ents [x]=some x/\r=x
 |n+1,x,r=>∃y,lB ents [x]=some y/\y≠x/\lS ents n y r
theorem Cf [Flo](ents:List (List Int × Int))(n:Nat)(x r:Int)(h:lS ents n x r):
 MSpec prog 47 [.mref 0,.d (.v (.int .i64 x))] [.mp 1 false ents] (.d (.v (.int .i64 r))) [.mp 1 false ents]:=by
 refine mj func47 ntmps47 results47 ?_;refine aq ?_<;>intros;refine bL ag am (fun m e h=>∃(y:Int),lS ents m y r/\e=[(4,.d (.v (.int .i64 0))),(1,.d (.v (.int .i64 y))),(0,.mref 0)]/\h=[.mp 1 false ents]) _ _ _ ⟨x,h,rfl,rfl⟩ (wf) ?_;rintro m e h ⟨y,hy,rfl,rfl⟩ C hC;cases m with
 |zero=>
  obtain⟨h1,rfl⟩:=hy;refine aq ?_<;>intros;all_goals exact aW rfl rfl
 |succ m=>
  obtain⟨z,h1,h2,h3⟩:=hy;have bG:(z !=y)=true:=by simpa using h2
  replace h3:=Xi h3;replace h2:=Xi h2;refine aq ?_<;>intros;exact hC _ _ _ _ _ (Nat.lt_succ_self _) ⟨z,h3.out,rfl,rfl⟩ (wf)
def dK (v w:Vpc):Bool:=v.ranges.any fun r=>w.ranges.any fun q=>r.at_.meets q.at_
theorem Kp [Flo](q r:Rng):ai prog 238 [.agg (bp q),.ept (bp r)] (.v (.bool (r.at_.meets q.at_))):=by
 have hm:ai prog 19 [.agg (aS r.at_),.agg (aS q.at_)] (.v (.bool (r.at_.meets q.at_))):=qd _ _;refine pj func238 ntmps238 results238 ?_;exact aY
theorem Nd [Flo](r:Rng)(w:Vpc)(hw:w.ranges.length<=1000000000):ai prog 237 [.agg (bp r),.ept (au w)] (.v (.bool (w.ranges.any fun q=>r.at_.meets q.at_))):=by
 have hc:=ol nm (fun q=>r.at_.meets q.at_) w.ranges 238 [.ept (bp r)] hw (fun q _=>Kp q r);refine pj func237 ntmps237 results237 ?_;exact aY
theorem QT [Flo](v w:Vpc)(hv:v.ranges.length<=1000000000)(hw:w.ranges.length<=1000000000):ai prog 188 [.agg (au v),.agg (au w)] (.v (.bool (dK v w))):=by
 have hc:=ol nm (fun r=>w.ranges.any fun q=>r.at_.meets q.at_) v.ranges 237 [.ept (au w)] hv (fun r _=>Nd r w hw);refine pj func188 ntmps188 results188 ?_;exact aY
def Et:List Int->Int
 |[]=>0
 |x::l=>if x=0 then Et l else x
theorem Nf {l:List Int}{k:Nat}{x:Int}(h:l[k]? =some x):Et (l.drop k)=if x=0 then Et (l.drop (k+1))else x:=by rw[kJ h,Et]
theorem a0D [Flo](l:List Int)(hl:l.length<=1000000000):ai prog 187 [.sl 1 (l.map cm)] (.v (.int .i64 (Et l))):=by
 obtain⟨R,hR⟩:∃R,R=Et l:=⟨_,rfl⟩;rw[<-hR];replace hR:=Xi hR;refine pj func187 ntmps187 results187 ?_;refine aq ?_<;>intros;refine bq ag am l (fun k=>Et l=Et (l.drop k)) (fun k=>[(8,.d (.v (.int .i64 k))),(7,.d (.v (.int .i64 l.length))),(6,.d (.sl 1 (l.map cm))),(3,.d (.v (.int .i64 0))),(2,.d (.v (.int .i64 0)))]) (fun _=>[]) rfl (wf) ?_ ?_
 ·intro k x hx hk hI C hC;have dF:(k:Int) < (l.length:Int):=aa;have cX:=wi k aa;rw[Nf hx]at hI;by_cases h0:x=0
  ·rw[ah h0]at hI;have bG:(x !=0)=false:=by simp[h0]
   replace hI:=Xi hI;replace h0:=Xi h0;refine aq ?_<;>intros;exact hC _ _ hI.out (wf)
  ·rw[af h0]at hI;have bG:(x !=0)=true:=by simpa using h0
   have hr:R=x:=by rw[hR.out,hI]
   rw[hr];replace hr:=Xi hr;replace hI:=Xi hI;replace h0:=Xi h0;exact aY;all_goals exact aO.refl _
 ·intro hI C;rw[Y6]at hI;have hr:R=0:=by rw[hR.out,hI];rfl
  rw[hr];replace hr:=Xi hr;replace hI:=Xi hI;exact aY;all_goals exact aO.refl _
theorem mt {p:Prop}(h:p:=by
 rintro m e h ⟨i,j,hij,hj,jr,kZ,rfl,rfl,rfl⟩ CL nR;by_cases hlt:i < j
 ·obtain⟨q,hq⟩:∃q,q=(i+j) / 2:=⟨_,rfl⟩;have uL:q < l.length:=aa;obtain⟨x,hx⟩:∃x,l[q]? =some x:=⟨_,Xj uL⟩;have oX:l[q]=x:=by rw[Xj uL]at hx;exact XU.inj hx
  have fy:(i:Int) < (j:Int):=aa;have co:IntKind.i64.wrap ((i:Int)+(j:Int))=((i+j:Nat):Int):=by rw[IntKind.wrap_i64];omega
  have cM:IntKind.u64.wrap ((i+j:Nat):Int)=((i+j:Nat):Int):=by rw[xu];omega
  have L4:(((i+j:Nat):Int)).fdiv (2 ^ min 1 64)=(q:Int):=by
   rw[hq,show (min 1 64:Nat)=1 from rfl,Int.pow_succ,Int.pow_zero,Int.one_mul,A' _ aa];omega
  have qP:IntKind.i64.wrap (q:Int)=(q:Int):=by rw[IntKind.wrap_i64];omega
  have C8:=wi q aa;have bP:=cU x;have iV:=XM (YW (cU x));have kY:=hc x (Xk hx);have LY:=sr (key x) t;have hqd:i<=q/\q < j:=aa;replace hq:=Xi hq;by_cases hk:key x < t
  ·have dF:decide (key x < t)=true:=by simpa using hk
   refine aq ?_<;>intros;refine nR _ _ _ _ _ ?_ ⟨q+1,j,by omega,hj,?_,kZ,rfl,rfl,rfl⟩ (wf (x:=[]) (hh:=rfl) (he:=⟨rfl,rfl,rfl,rfl,rfl,rfl,rfl,rfl,trivial⟩))
   ·omega
   ·intro q' hq' LJ;rcases XL q' q with h1|h1
    ·have:=XH.1 hs q' q hq' uL h1;rw[oX]at this;omega
    ·obtain rfl:q'=q:=aa;rw[oX];exact hk
  ·have dF:decide (key x < t)=false:=by simpa using hk
   refine aq ?_<;>intros;refine nR _ _ _ _ _ ?_ ⟨i,q,by omega,by omega,jr,?_,rfl,rfl,rfl⟩ (wf (x:=[]) (hh:=rfl) (he:=⟨rfl,rfl,rfl,rfl,rfl,rfl,rfl,rfl,trivial⟩))
   ·omega
   ·intro q' hq' LJ;rcases XL q q' with h1|h1
    ·have:=XH.1 hs q q' uL hq' h1;rw[oX]at this;omega
    ·obtain rfl:q'=q:=aa;rw[oX];omega
 ·obtain rfl:i=j:=aa;have j0:=rf hj jr kZ;have tF:ss key t l=match l[i]? with|some x=>key x==t|none=>false:=by unfold ss;rw[j0];all_goals(cases l[i]? <;>rfl)
  replace j0:=Xi j0;replace tF:=Xi tF;by_cases dM:i < l.length
  ·obtain⟨x,hx⟩:∃x,l[i]? =some x:=⟨_,Xj dM⟩;have Pt:decide ((i:Int) < (l.length:Int))=true:=by simpa using dM
   have bP:=cU x;have iV:=XM (YW (cU x));have kY:=hc x (Xk hx);have hcz:=ug (key x) t;refine aq ?_<;>intros;all_goals rw[tF.out,hx,j0.out]
   all_goals exact aO.refl _
  ·have Pt:decide ((i:Int) < (l.length:Int))=false:=by simpa using dM
   refine aq ?_<;>intros;all_goals rw[tF.out,j0.out,XN aa]
   all_goals exact aO.refl _):p:=h
theorem a2U {p:Prop}(h:p:=by
 exact wf (x:=[]) (hh:=rfl) (he:=⟨rfl,rfl,rfl,rfl,rfl,rfl,rfl,rfl,trivial⟩)):p:=h
def sJ (l m:Lnk):Int:=Et [eN l.a m.a,eN l.b m.b]
theorem QU [Flo](l m:Lnk):ai prog 98 [.agg (bS l),.agg (bS m)] (.v (.int .i64 (sJ l m))):=by
 have h1:=nq l.a m.a;have h2:=nq l.b m.b;have h3:=a0D [eN l.a m.a,eN l.b m.b] ak;simp only[Xl,Xp,cm]at h3;unfold sJ;generalize eN l.a m.a=A at*;generalize eN l.b m.b=B at*;refine pj func98 ntmps98 results98 ?_;exact aY
def fX (a b:Int):Lnk:=⟨if b < a then b else a,if a < b then b else a⟩
theorem ww [Flo](v:Vpc)(id:Int):ai prog 112 [.agg (au v),.v (.int .i64 id)] (.v (.int .i64 (eN v.id id))):=by
 have h1:=nq v.id id;refine pj func112 ntmps112 results112 ?_;exact aY
theorem sK [Flo]{α:Type}{enc:α->List D}(cU:∀x,(enc x).length=3)(key:α->Int)(l:List α)(t:Int)(g:Nat)(caps:List D)(hl:l.length<=1000000000)(hs:l.Pairwise fun a b=>key a < key b)(hc:∀x∈l,ai prog g (.agg (enc x):: .v (.int .i64 t)::caps) (.v (.int .i64 (eN (key x) t)))):
 ai prog 111 [.sl 3 (l.map enc),.v (.int .i64 t),.clo g caps] (.tup [.v (.int .i64 (jV key t l)),.v (.bool (ss key t l))]):=by
 refine pj func111 ntmps111 results111 ?_;refine aq ?_<;>intros;refine bL ag am (fun m e h=>∃i j:Nat,i<=j/\j<=l.length/\(∀q (hq:q < l.length),q < i->key l[q] < t)/\(∀q (hq:q < l.length),j<=q->t<=key l[q])/\m=j - i/\
  e=[(10,.d (.v (.int .i64 j))),(9,.d (.v (.int .i64 i))),(8,.d (.v (.int .i64 l.length))),(7,.d (.v (.bool false))),(6,.d (.v (.int .i64 0))),(2,.d (.clo g caps)),(1,.d (.v (.int .i64 t))),(0,.d (.sl 3 (l.map enc)))]/\h=[]) _ _ _ ⟨0,l.length,XE _,XA _,fun q hq h=>absurd h (Yy _),fun q hq h=>by omega,rfl,rfl,rfl⟩ ?_ ?_
 ·exact a2U
 ·exact mt
end Go.Proofs.YtmicljipaiohkaaGreat
