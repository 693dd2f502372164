/- DeskKept: its statement, for every input, out of its walk. (texts of this work, joined) -/
import Derived.Test.YtojojebildofnaaGreatDoorZHDeskKept4
import Derived.Lib.Join
import Derived.SizedLaws
import Derived.Test.YtojojebildofnaaGreatDoorCards
import Derived.Test.YtojojebildofnaaGreatDoorTie
import Derived.Stop.LaidErr
import Derived.Lib.LaidTab
import Derived.Lib.ItoaNum
import Derived.MakeChecks
import Derived.LaidMore
import Derived.LaidHandle
import Derived.SevenTiedAt
import Derived.Test.YtojojebildofnaaGreatDoorRows
import Derived.WalkKit
import Derived.ProofKit
import Derived.OpenShut
import Derived.ShutString
import Derived.ChangeOld
import Derived.Below
set_option linter.unusedSimpArgs false
set_option linter.unusedVariables false
set_option maxRecDepth 100000
set_option maxHeartbeats 16000000
namespace Go.Proofs.YtojojebildofnaaGreatDoor
open Go Go.RowKit Go.Proofs.Tryz
open _root_.List renaming getElem?_eq_getElem → VY, mem_of_getElem? → V0, map_cons → V1, length_take → V2, getElem?_eq_some_iff → V3, take_length → V4, map_nil → V5, map_append → V6, getElem?_map → V7, setIfInBounds_toArray → V8, length_append → V9, length_cons → Wc, length_map → Wg, set_cons_zero → Wi, take_of_length_le → Wj, set_cons_succ → Wl, getElem?_eq_none → Wm, getElem?_take_of_lt → Wo, mem_map → Wp, getElem?_append_right → Wq, length_drop → Wt, getD_eq_getElem?_getD → Ww, all_eq_true → Wx, replicate → Wy, eq_nil_of_length_eq_zero → WA, range → WC, append_assoc → WE, pairwise_iff_getElem → WG, cons_append → WH, mem_cons → WI, mem_append → WJ, getElem?_append_left → WK, mem_of_mem_drop → WL, length_nil → WM, mem_of_mem_take → WN, nil_append → WO, mem_singleton → WP, ext_getElem? → WS, getElem?_drop → WU, append_nil → WV, take_append_of_le_length → WY, getElem_mem → W8, mem_iff_getElem → W9, size_toArray → Xb, take → Xd, flatten_cons → Xe, getElem?_cons_succ → Xg, mem_range → Xk, findIdx?_eq_none_iff → Xm, toList_toArray → Xs, drop_eq_getElem_cons → Xv, mem_or_eq_of_mem_set → Xw, foldl_cons → XA, mem_map_of_mem → XC, take_append_drop → XE, mem_cons_of_mem → XG, take_zero → XH, any_eq_true → XK, flatMap_append → XL, filter_filter → XN, getElem?_take → XO, find?_eq_none → XP, map_take → XS, take_succ_eq_append_getElem → XT, all_eq_false → X6, drop_length → Yi, flatMap_nil → Yj, mem_of_find?_eq_some → Yp, map_map → Yz, length_set → YB, filter_congr → YD, getElem_take → YE, mem_append_left → YH, length_eraseIdx → YJ, take_sublist → YZ
open Go.Lib renaming hid → VZ, byteCells → XJ, strCells → X0, join → YC
open _root_.Nat renaming le_refl → Wa, zero_add → Wn, zero_le → Wr, reduceAdd → Ws, reduceEqDiff → Wu, lt_or_ge → Wv, add_zero → Wz, mul_le_mul_right → WX, sub_zero → WZ, lt_of_lt_of_le → W4, le_trans → W6, sub_self → Xy, add_assoc → XI, add_mul → XV, not_lt_zero → XW, lt_trichotomy → X8, zero_lt_succ → Yh, eq_zero_or_pos → Yk, min → Yo, reduceLT → Ys, min_def → YI, le_of_lt → YM, lt_or_eq_of_le → Y7, le_of_lt_succ → Y9
open Go.World renaming size_alloc → Wb, heap_drewN → We, size_drew → Wf, cell? → Xl, cell?_of_block → XR, setRow → Yf, ownsRow_nil → YV
open _root_.Bool renaming and_eq_true → Wd, and_self → WW, and_true → Xa, true_and → Xt, false_eq_true → XF, eq_false_iff → Yt, false_and → YG, and_assoc → Y0
open _root_.Option renaming map_eq_some_iff → Wh, isSome_some → Wk, some → WD, map_some → WQ, getD_some → Xc, isSome_none → Xi, bind_some → Xn, isSome_iff_exists → XZ, map_none → Yb
open _root_.Array renaming getElem?_toList → WB, getElem?_eq_none → WT, replicate → XB, mem_of_getElem? → Yn, toList_append → YR
open _root_.ByteArray renaming mk → Xo, size_extract → Xx, size_append → XX
open _root_.Int renaming lt_irrefl → Xp, dvd_of_emod_eq_zero → Ya, fdiv_eq_ediv_of_nonneg → Yl, pow_succ → Zc
section
open Go.Proofs
def cL (l:List UInt8):List (List D):=l.map fun b=>[.v (.int .u8 b.toNat)]
abbrev fE (l:List UInt8):List (List PV):=aa (cL l)
theorem qA (l:List UInt8):(fE l).length=l.length:=by simp[fE,aa,cL]
theorem ub (l:List UInt8):(fE l).flatten=(l.map fun b=>D.v (.int .u8 b.toNat)).map .d:=by
 induction l with
 |nil=>rfl
 |cons a l ih=>
  have:fE (a::l)=[.d (.v (.int .u8 a.toNat))]::fE l:=rfl;rw[this,Xe,ih];rfl
theorem I3 {c:Cx}{w:World}{l:List UInt8}{xs:List Value}(h:aZ c w (fE l).flatten xs):xs=XJ l:=by
 rw[ub]at h;have h2:=sy h;apply WS;intro j;unfold XJ;rw[V7];cases hl:l[j]? with
 |none=>
  have:=h2.1;rw[Wg]at this;rw[Wm (by rw[←this];simpa using hl)];rfl
 |some u=>
  have hlt:j < xs.length:=by have:=h2.1;rw[Wg]at this;rw[←this];exact(V3.1 hl).1
  have:=h2.2 j (.v (.int .u8 u.toNat)) xs[j] (by rw[V7,hl];rfl) (VY hlt);rw[VY hlt];generalize xs[j]=y at this;cases this;rfl
theorem wH {c:Cx}{w:World}(l:List UInt8):aZ c w (fE l).flatten (XJ l):=by
 rw[ub];refine mV ⟨by simp[XJ],fun j d x hj hx=>?_⟩;unfold XJ at hx;rw[V7]at hj hx;cases hl:l[j]? with
 |none=>rw[hl]at hj;cases hj
 |some u=>rw[hl]at hj hx;cases hj;cases hx;exact .v _
theorem AO (l:List UInt8):∀r∈fE l,r.length=1:=fun r hr=>by
 obtain⟨q,hq,rfl⟩:=Wp.1 hr;obtain⟨u,-,rfl⟩:=Wp.1 hq;rfl
theorem wI (l:List UInt8):∀r∈fE l,∀d∈r,d.one=true:=fun r hr d hd=>by
 obtain⟨q,hq,rfl⟩:=Wp.1 hr;obtain⟨u,-,rfl⟩:=Wp.1 hq;simp at hd;subst hd;rfl
theorem P6 {s:FS}{H:List Chunk}(h1:s.env=dQ [])(h2:∀k,s.heap k=aw H k):s=bp [] H:=by
 cases s;simp only[bp,FS.mk.injEq]at*;exact⟨h1,funext h2⟩
theorem xQ {X:Cfg}{s:FS}{H:List Chunk}{a:Act}{w:World}{c:Cx}(h:RealC X s a w c)(h1:s.env=dQ [])(h2:∀k,s.heap k=aw H k):RealC X (bp [] H) a w c:=P6 h1 h2 ▸ h
structure Pap (c:Cx)(w:World)(g:Nat)(ad:PV)(l:List UInt8)(b:Nat)(adv v:Value):Prop where
 bl:c.bl 0=some b
 hh:w.heap[b]? =some (.cells #[adv,v] 78 (0,0))
 ov:c.ov 1 g=some v
 own:OwnV w 5 1 v l.length (XJ l)
 adr:RepP c w ad adv
 ne:cm v≠some b
theorem I4 {X:Cfg}{w:World}{c:Cx}{g:Nat}{ad:PV}{l:List UInt8}(h:RealC X (bp [] [.box 78 [ad,.own 1 g],.row 5 1 g (fE l)]) EJ w c):∃b adv v,Pap c w g ad l b adv v:=by
 have h0:=h.chunk 0;have h1:=h.chunk 1;cases h0 with
 |box _ _ b vs hb hh hr h1'=>
  cases h1 with
  |row _ _ _ _ v xs hv bf sg ck TD hg=>
   obtain⟨adv,MR⟩:∃u,vs[0]? =some u:=⟨_,VY (by rw[←hr.1];simp)⟩;obtain⟨v1,pF⟩:∃u,vs[1]? =some u:=⟨_,VY (by rw[←hr.1];simp)⟩;have ha:=hr.2 0 _ _ rfl MR;have ho:=hr.2 1 _ _ rfl pF;have qI:vs=[adv,v1]:=by
    match vs,hr.1,MR,pF with
    |[a,b],_,h0,h1=>cases h0;cases h1;rfl
   subst qI;cases ho with
   |own _ _ _ dy _=>
    rw[hv]at dy;cases dy;have hx:=I3 sg;subst hx;rw[qA]at bf;refine⟨b,adv,v,⟨hb,hh,hv,bf,ha,fun e=>?_⟩⟩;have:=h.apart 0 1 b hb (by show Cx.block c 1 (.row _ _ _ _)=_;simp only[Cx.block,hv];exact e);cases this
theorem u9 (g:Nat)(ad:PV)(l t:List UInt8)(Gy:ad= .d (.v (.pointer none))∨ad= .ptr 0 0)(bc:l.length+t.length≤140737488355328):
 MSpec prog 63 [.ptr 0 0,.d (.v (.string (bs t)))] [.box 78 [ad,.own 1 g],.row 5 1 g (fE l)] (.d (.tup [.v (.int .i64 t.length),.v .nilIface]))
  [.box 78 [.ptr 0 0,.own 1 (g+1)],.row 5 1 (g+1) (fE (l++t))]:=by
 refine⟨ce func63 (by kernel_rfl) rfl,Wa _,rfl,?_,fun X hP hn hm w c vs hR cZ=>?_⟩
 ·rcases Gy with rfl|rfl<;>simp[ay,aH,af,ag,fE,an]
 obtain⟨b,adv,v,hp⟩:=I4 hR;obtain⟨v1,pF⟩:∃u,vs[0]? =some u:=⟨_,VY (by rw[←cZ.1];simp)⟩;obtain⟨v2,Js⟩:∃u,vs[1]? =some u:=⟨_,VY (by rw[←cZ.1];simp)⟩;have ha:=cZ.2 0 _ _ rfl pF;have hb:=cZ.2 1 _ _ rfl Js;have qI:vs=[v1,v2]:=by
  match vs,cZ.1,pF,Js with
  |[a,b],_,h0,h1=>cases h0;cases h1;rfl
 subst qI;clear pF Js;cases ha with
 |ptr _ _ b' hb'=>
  rw[hp.bl]at hb';cases hb';cases hb with
  |d _ _ hd=>
   cases hd;have To:∃ao,adv= .pointer ao∧(ao=none∨ao=some ⟨b,0,none⟩):=by
    have:=hp.adr;rcases Gy with rfl|rfl
    ·cases this with
     |d _ _ h=>cases h;exact⟨_,rfl,.inl rfl⟩
    ·cases this with
     |ptr _ _ b' hb'=>rw[hp.bl]at hb';cases hb';exact⟨_,rfl,.inr rfl⟩
   obtain⟨ao,rfl,Sq⟩:=To;refine(lC b ao v l.length (XJ l) (bs t) w hp.hh Sq hp.own hp.ne (by rw[eO];exact bc)).mono ?_;rintro e w' ⟨rfl,v',w2,da,cV,Gs,rfl⟩;rw[eO]at cV ⊢;have r1:=hR.set_box (k:=0) (T:=78) (cells:=[ad,.own 1 g]) (cells':=[.ptr 0 0,.own 1 g]) (vs:=[.pointer ao,v]) (vs':=[.pointer (some ⟨b,0,none⟩),v]) rfl hp.bl hp.hh
    ⟨rfl,fun j d x hj hx=>by
     match j with
     |0=>cases hj;cases hx;exact .ptr 0 0 b hp.bl
     |1=>cases hj;cases hx;exact .own 1 g v hp.ov hp.own.one
     |j+2=>simp at hj⟩ (by intro d hd;simp at hd;rcases hd with rfl|rfl<;>rfl)
   obtain⟨c',r2,r3⟩:=r1.set_row (k:=1) (E:=5) (sz:=1) (g:=g) (rows:=fE l) (rows':=fE (l++t)) (v:=v) (v':=v') (xs':=XJ l++X0 (bs t)) rfl hp.ov da (by rw[qA,V9];exact cV) Gs
    (by rw[Lib.strCells_eq,D9,←Lib.byteCells_append];exact wH _) (AO _) (wI _)
   have JN:c'.bl 0=some b:=by rw[(r2.lent 0 (by rw[hm];exact Yh _)).1,←(hR.lent 0 (by rw[hm];exact Yh _)).1];exact hp.bl
   have hlt:b < (w.setRow b #[.pointer (some ⟨b,0,none⟩),v]).heap.size:=by
    rcases Wv b (w.setRow b #[.pointer (some ⟨b,0,none⟩),v]).heap.size with h|h
    ·exact h
    ·have:=setRow_heap w b _ #[.pointer (some ⟨b,0,none⟩),v] _ _ hp.hh;rw[WT h]at this;cases this
   have lx:w2.heap[b]? =some (.cells #[.pointer (some ⟨b,0,none⟩),v] 78 (0,0)):=by
    rw[da.block b hlt hp.ne];exact setRow_heap w b _ _ _ _ hp.hh
   have r4:=r2.set_box (k:=0) (T:=78) (cells:=[.ptr 0 0,.own 1 g]) (cells':=[.ptr 0 0,.own 1 (g+1)]) (vs:=[.pointer (some ⟨b,0,none⟩),v]) (vs':=[.pointer (some ⟨b,0,none⟩),v']) rfl JN lx
    ⟨rfl,fun j d x hj hx=>by
     match j with
     |0=>cases hj;cases hx;exact .ptr 0 0 b JN
     |1=>cases hj;cases hx;exact r3
     |j+2=>simp at hj⟩ (by intro d hd;simp at hd;rcases hd with rfl|rfl<;>rfl)
   refine⟨_,c',rfl,.d _ _ (.tup _ [_,_] rfl fun j d x hj hx=>?_),?_⟩
   ·match j with
    |0=>cases hj;cases hx;exact .v _
    |1=>cases hj;cases hx;exact .v _
    |j+2=>simp at hj
   ·exact xQ r4 rfl fun k=>by match k with|0=>rfl|1=>rfl|k+2=>rfl
theorem I5 (g:Nat)(l:List UInt8)(h0:l≠[]):
 MSpec prog 35 [.ptr 0 0] [.box 78 [.ptr 0 0,.own 1 g],.row 5 1 g (fE l)] (.d (.v (.string (bs l)))) [.gone,.gone]:=by
 refine⟨ce func35 (by kernel_rfl) rfl,Wa _,rfl,by simp[ay,aH,af,ag,fE,an],fun X hP hn hm w c vs hR cZ=>?_⟩;obtain⟨b,adv,v,hp⟩:=I4 hR;obtain⟨v1,pF⟩:∃u,vs[0]? =some u:=⟨_,VY (by rw[←cZ.1];simp)⟩;have ha:=cZ.2 0 _ _ rfl pF;have qI:vs=[v1]:=by
  match vs,cZ.1,pF with
  |[a],_,h0=>cases h0;rfl
 subst qI;cases ha with
 |ptr _ _ b' hb'=>
  rw[hp.bl]at hb';cases hb';refine(CD b adv v l w hp.hh hp.own h0).mono ?_;rintro e w' ⟨rfl,ho⟩;have ct:c.block 1 ((bp [] [.box 78 [.ptr 0 0,.own 1 g],.row 5 1 g (fE l)]).heap 1)=cm v:=by
   show Cx.block c 1 (.row _ _ _ _)=_;simp only[Cx.block,hp.ov];rfl
  have r1:=hR.turn (w':=w') (c':={c with M:=fun b=>c.M b∧cm v≠some b}) (k:=1) (ch:= .gone) ⟨fun _ _ h=>h,fun _ _ _ h=>h⟩ rfl (fun _ _=>rfl) (fun _ _=>rfl) ho.os ho.tape ho.output ho.size
   (fun b hb bq=>ho.block b hb (by rw[←ct];exact bq)) (fun b=>by rw[ct];simp[Cx.block]) (fun b hb=>by simp[Cx.block]at hb) (fun _=> .gone)
  have r2:=r1.freeze [0];exact⟨_,_,rfl,.d _ _ (.v _),xQ r2 rfl fun k=>by match k with|0=>rfl|1=>rfl|k+2=>rfl⟩
theorem I6 {M:Nat→Prop}{w:World}{ws:List (List UInt8)}(h0:ws≠[]){v:Value}(h:RepD M w (.sl 1 (ws.map fun x=>[.v (.string (bs x))])) v):∃b o cap,v= .slice (some ⟨b,o,none⟩) ws.length cap∧b < w.heap.size∧ws.length≤cap∧∀j x,ws[j]? =some x→w.cell? ⟨b,o+j,none⟩=some (.string (bs x)):=by
 generalize hr:ws.map (fun x=>[D.v (.string (bs x))])=rows at h;have hl:ws.length=rows.length:=by rw[←hr];simp
 cases h with
 |nil=>exact absurd (WA (by simpa using hl)) h0
 |sl _ _ b off cap f hM hb hc hm hr' h1 bE aV=>
  refine⟨b,off,cap,by rw[hl],hb,by omega,fun j x hj=>?_⟩;have hlt:j < rows.length:=by rw[←hl];exact(V3.1 hj).1
  have bu:rows[j]? =some [.v (.string (bs x))]:=by rw[←hr,V7,hj];rfl
  have:=bE j 0 hlt (by omega);rw[Nat.mul_one,Wz]at this;rw[this,mg (aV j 0 _ _ bu rfl)]
theorem Og (ws:List (List UInt8))(sep:List UInt8)(h0:ws≠[])(hn:ws.length≤140737488355328)(hl:(YC ws sep).length≤140737488355328):ae prog 64 [.sl 1 (ws.map fun x=>[.v (.string (bs x))]),.v (.string (bs sep))] (.v (.string (bs (YC ws sep)))):=by
 refine⟨ce func64 (by kernel_rfl) rfl,fun M w vs hM hG cZ=>?_⟩;obtain⟨v,vs,rfl,h1,cZ⟩:=dZ cZ;obtain⟨u,vs,rfl,h2,cZ⟩:=dZ cZ;rw[kg cZ,mg h2];obtain⟨b,o,cap,rfl,hb,hc,bE⟩:=I6 h0 h1;have hm:(ws.map bs).map (·.data.toList)=ws:=by rw[Yz];exact List.map_id _
 have:=strings_Join b o cap (ws.map bs) (bs sep) w (fun j x hj=>by
  rw[V7]at hj;simp only[Wh]at hj;obtain⟨y,hy,rfl⟩:=hj;exact bE j y hy) hb (by simpa using hn) (by simpa using hc) (by rw[hm];exact hl)
 rw[hm,Wg]at this;exact this.mono fun e w' ⟨he,hw⟩=>⟨_,he,.v _,hw⟩
theorem P7 (n:Nat)(hn:n≤9223372036854775807):ae prog 32 [.v (.int .i64 n)] (.v (.string (bs (dS n)))):=by
 have h:=xP n hn;generalize bs (dS n)=T at*;refine pj func32 ntmps32 results32 ?_;exact bx
end
def eh (p:Pfx):List UInt8:=dS (p.at_.toNat / 256)++(46::(dS (p.at_.toNat % 256)++(47::dS p.len.toNat)))
def AP (p:Pfx):List UInt8 × Int:=if chk p.at_ p.len≠0 then ([],chk p.at_ p.len)else (eh p,0)
theorem CE {p:Pfx}(hr:p.right=true):0≤p.at_∧p.at_≤65535∧0≤p.len∧p.len≤16:=by
 obtain⟨b1,b2,b3,b4,-⟩:=p.bd hr;exact⟨b3,b4,b1,b2⟩
theorem I7 (a b c:List UInt8):bs (a++(46::(b++(47::c))))=(((bs a++bs [46])++bs b)++bs [47])++bs c:=by
 rw[ln,ln,ln,ln];congr 1;simp
theorem Oh (p:Pfx):ae prog 133 [.agg (aL p)] (.tup [.v (.string (bs (AP p).1)),.v (.int .i64 (AP p).2)]):=by
 have bn:=m3 p;unfold AP;by_cases hc:chk p.at_ p.len=0
 ·rw[if_neg (by simpa using hc)];have hr:p.right=true:=by simp[Pfx.right,bQ,hc]
  obtain⟨h1,h2,h3,h4⟩:=CE hr;rw[hc]at bn;clear hc;obtain⟨x,hx⟩:∃x:Nat,p.at_=x:=⟨p.at_.toNat,by omega⟩;obtain⟨z,hz⟩:∃z:Nat,p.len=z:=⟨p.len.toNat,by omega⟩;have i1:=xP (x / 256) (by omega);have i2:=xP (x % 256) (by omega);have i3:=xP z (by omega);have ha:p.at_.fdiv (2 ^ min 8 64)=((x / 256:Nat):Int):=by
   have e:(2:Int) ^ min 8 64=256:=by decide
   rw[e,hx,Yl _ (by omega)];omega
  have hb:IntKind.i64.wrap ((BitVec.ofInt IntKind.i64.bits p.at_&&& BitVec.ofInt IntKind.i64.bits 255).toNat:Int)=((x % 256:Nat):Int):=by
   have e:(BitVec.ofInt 64 p.at_&&& BitVec.ofInt 64 255).toNat=x % 256:=by
    have e1:((x:Int) % ((2 ^ 64:Nat):Int)).toNat=x:=by omega
    have e2:((255:Int) % ((2 ^ 64:Nat):Int)).toNat=2 ^ 8 - 1:=by decide
    rw[hx,BitVec.toNat_and,BitVec.toNat_ofInt,BitVec.toNat_ofInt,e1,e2,Nat.and_two_pow_sub_one_eq_mod]
   show IntKind.i64.wrap ((BitVec.ofInt 64 p.at_&&& BitVec.ofInt 64 255).toNat:Int)=_;rw[e,IntKind.wrap_i64];omega
  have l1:=ox (x / 256) (by omega);have l2:=ox (x % 256) (by omega);have l3:=ox z (by omega);have ht:eh p=dS (x / 256)++(46::(dS (x % 256)++(47::dS z))):=by unfold eh;rw[hx,hz];rfl
  rw[ht,I7];have s1:(bs (dS (x / 256))).size+(bs [46]).size≤9223372036854775807:=by simp only[eO];simp;omega
  have s2:(bs (dS (x / 256))++bs [46]).size+(bs (dS (x % 256))).size≤9223372036854775807:=by simp only[ln,eO];simp;omega
  have s3:((bs (dS (x / 256))++bs [46])++bs (dS (x % 256))).size+(bs [47]).size≤9223372036854775807:=by simp only[ln,eO];simp;omega
  have s4:(((bs (dS (x / 256))++bs [46])++bs (dS (x % 256)))++bs [47]).size+(bs (dS z)).size≤9223372036854775807:=by simp only[ln,eO];simp;omega
  simp only[XX]at s2 s3 s4;clear ht hr h1 h2 h3 h4;rw[←hz]at i3;replace hx:=VZ hx;replace hz:=VZ hz;generalize bs (dS (x / 256))=t1 at*;generalize bs (dS (x % 256))=t2 at*;generalize bs (dS z)=t3 at*;have c1:Xo #[46]=bs [46]:=rfl;have c2:Xo #[47]=bs [47]:=rfl;refine pj func133 ntmps133 results133 ?_;exact bx;all_goals exact dg
 ·rw[if_pos hc];have h1:(chk p.at_ p.len !=0)=true:=by simpa using hc
  generalize chk p.at_ p.len=E at*;refine pj func133 ntmps133 results133 ?_;exact bx;all_goals exact dg
@[go_sem] def uc (x:List UInt8):List D:=[.v (.string (bs x))]
def pA (x:List UInt8):List PV:=[.d (.v (.string (bs x)))]
theorem xR (ws:List (List UInt8)):ws.map pA=aa (ws.map uc):=by simp[aa,uc,pA]
def cI (ws:List (List UInt8)):List UInt8:=YC ws [32]++[10]
theorem I8 (g:Nat)(ws:List (List UInt8))(sep:List UInt8)(h0:ws≠[])(hn:ws.length≤140737488355328)(hl:(YC ws sep).length≤140737488355328):
 MSpec prog 64 [.own 0 g,.d (.v (.string (bs sep)))] [.row 9 1 g (ws.map pA)] (.d (.v (.string (bs (YC ws sep))))) [.gone]:=by
 rw[xR];exact tb (Og ws sep h0 hn hl) rfl (by simp[ay,aH,an]) (by simp[vw,bW,aO,aw,dF];intros;rfl) (by simp[tc,gq,cn,aw,l9])
theorem lq (g gw:Nat)(ad:PV)(l:List UInt8)(ws:List (List UInt8))(Gy:ad= .d (.v (.pointer none))∨ad= .ptr 0 0)(h0:ws≠[])(hn:ws.length≤1000)(bc:l.length+(cI ws).length≤1000000000):
 MSpec prog 31 [.ptr 0 0,.own 2 gw] [.box 78 [ad,.own 1 g],.row 5 1 g (aa (cL l)),.row 9 1 gw (ws.map pA)] (.d (.tup []))
  [.box 78 [.ptr 0 0,.own 1 (g+1)],.row 5 1 (g+1) (aa (cL (l++cI ws))),.gone]:=by
 have yj:(cI ws).length=(YC ws [32]).length+1:=by simp[cI]
 have hj:=Ln.mk (ls:=[2]) (I8 gw ws [32] h0 (by omega) (by omega));have hw:=Ln.mk (ls:=[0,1]) (u9 g ad l (cI ws) Gy (by omega));have c1:Xo #[32]=bs [32]:=rfl;have c2:Xo #[10]=bs [10]:=rfl;have e:bs (YC ws [32])++bs [10]=bs (cI ws):=ln _ _;have hs:(bs (YC ws [32])).size+(bs [10]).size≤9223372036854775807:=by rw[eO,eO];simp;omega
 rw[xR]at*;unfold fE at*;generalize ws.map uc=W at*;generalize bs (YC ws [32])=J at*;generalize bs [32]=B at*;generalize bs [10]=N at*;generalize cL (l++cI ws)=R2 at*;generalize cL l=R1 at*;generalize bs (cI ws)=T at*;clear h0 hn bc yj;rcases Gy with rfl|rfl
 ·refine mj func31 ntmps31 results31 ?_;refine aF ?_;exact aP rfl rfl
 ·refine mj func31 ntmps31 results31 ?_;refine aF ?_;exact aP rfl rfl
def Nn (n:Int):Prop:=0≤n∧n≤9223372036854775807
def dN (n:Int):List UInt8:=dS n.toNat
theorem hZ (n:Int)(h:Nn n):ae prog 32 [.v (.int .i64 n)] (.v (.string (bs (dN n)))):=by
 have:=P7 n.toNat (by have:=h.2;omega);rw[show ((n.toNat:Nat):Int)=n by have:=h.1;omega]at this;exact this
theorem sf (p:Pfx)(h:p.right=true):ae prog 66 [.agg (aL p)] (.v (.string (bs (eh p)))):=by
 have h1:=Oh p;have h2:AP p=(eh p,0):=by unfold AP;rw[if_neg (by simpa[Pfx.right,bQ]using h)]
 rw[h2]at h1;dsimp only at h1;generalize bs (eh p)=T at*;clear h2 h;refine pj func66 ntmps66 results66 ?_;exact bx
def ud:List UInt8:=[112,111,111,108]
def Oi:List UInt8:=[117,112]
def ue:List UInt8:=[117,115,101,114]
def uf:List UInt8:=[110,101,115,116]
def ug:List UInt8:=[99,111,111,108]
def lu (x:Lse):List UInt8:=if x.kind=1 then cI [ue,dN x.owner,eh x.at_]else if x.kind=2 then cI [uf,dN x.owner,eh x.at_]else cI [ug,dN x.till,eh x.at_]
def mF (p:Pol):List UInt8:=cI [ud,dN p.id,Oi,dN p.up,eh p.root]++p.leases.flatMap lu
structure LseT (x:Lse):Prop where
 at_:x.at_.right=true
 kind:x.kind=1∨x.kind=2∨x.kind=3
 owner:Nn x.owner
 till:Nn x.till
structure PolT (p:Pol):Prop where
 id:Nn p.id
 up:Nn p.up
 root:p.root.right=true
 n:p.leases.length≤1000
 ls:∀x∈p.leases,LseT x
theorem lv {α:Type}{l:List α}{k:Nat}{x:α}(h:l[k]? =some x)(f:α→List UInt8):(l.take (k+1)).flatMap f=(l.take k).flatMap f++f x:=by
 rw[aj h,XL];simp
theorem uh {α:Type}(l:List α)(k:Nat)(f:α→List UInt8):((l.take k).flatMap f).length≤(l.flatMap f).length:=by
 conv=>rhs;rw[←XE k l,XL,V9]
 omega
theorem Oj (g:Nat)(l:List UInt8)(p:Pol)(hp:PolT p)(bc:l.length+(mF p).length≤1000000000):
 MSpec prog 33 [.ptr 0 0,.d (.agg (al p))] [.box 78 [.ptr 0 0,.own 1 g],.row 5 1 g (aa (cL l))] (.d (.tup []))
  [.box 78 [.ptr 0 0,.own 1 (g+1+p.leases.length)],.row 5 1 (g+1+p.leases.length) (aa (cL (l++mF p)))]:=by
 have i1:=hZ p.id hp.id;have i2:=hZ p.up hp.up;have s1:=sf p.root hp.root;have hn:=hp.n;obtain⟨L0,yk⟩:∃L0,L0=l++cI [ud,dN p.id,Oi,dN p.up,eh p.root]:=⟨_,rfl⟩;have hT:l++mF p=L0++p.leases.flatMap lu:=by rw[yk];unfold mF;rw[WE]
 have bR:L0.length+(p.leases.flatMap lu).length≤1000000000:=by rw[←V9,←hT,V9];exact bc
 have hl:=Ln.mk (ls:=[0,1,3]) (lq g 0 (.ptr 0 0) l [ud,dN p.id,Oi,dN p.up,eh p.root] (.inr rfl) (by simp) (by simp) (by rw[←V9,←yk];omega));rw[←yk]at hl;rw[hT];simp only[V1,V5,pA]at hl;have c1:Xo #[112,111,111,108]=bs ud:=rfl;have c2:Xo #[117,112]=bs Oi:=rfl;have C6:=hp.ls;generalize bs ud=B1 at*;generalize bs Oi=B2 at*;generalize bs (dN p.id)=B3 at*;generalize bs (dN p.up)=B4 at*;generalize bs (eh p.root)=B5 at*;clear hp bc hT;replace yk:=VZ yk;replace C6:=VZ C6;refine mj func33 ntmps33 results33 ?_;refine aF ?_;refine bP ah av p.leases (fun _=>True) (fun k=>[(21,.d (.v (.int .i64 k))),(20,.d (.v (.int .i64 p.leases.length))),(19,.d (.sl 5 (p.leases.map aW))),(0,.ptr 0 0)])
  (fun k=>[.box 78 [.ptr 0 0,.own 1 (g+1+k)],.row 5 1 (g+1+k) (aa (cL (L0++(p.leases.take k).flatMap lu)))]) trivial ?_ ?_ ?_
 ·simp only[XH,Yj,WV];exact wf
 ·intro k x hx hk _ C hC;have g8:(k:Int) < (p.leases.length:Int):=by omega
  have ed:=wi k (by omega);have JO:=C6.out x (V0 hx);have lI:=lv hx lu;have hle:=uh p.leases (k+1) lu;rw[lI,V9]at hle;have i3:=hZ x.owner JO.owner;have i4:=hZ x.till JO.till;have s2:=sf x.at_ JO.at_;have hkd:=JO.kind;clear JO i1 i2 s1 hl c1 c2;obtain⟨L1,mQ⟩:∃L1,L1=L0++(p.leases.take k).flatMap lu:=⟨_,rfl⟩;have jW:L1.length+(lu x).length≤1000000000:=by rw[mQ,V9];omega
  rw[←mQ];have cv:L0++(p.leases.take (k+1)).flatMap lu=L1++lu x:=by rw[lI,mQ,WE]
  replace cv:=VZ cv;replace mQ:=VZ mQ;clear lI hle bR;rcases hkd with hkd|hkd|hkd
  ·have Bb:lu x=cI [ue,dN x.owner,eh x.at_]:=by unfold lu;rw[if_pos hkd]
   have hl:=Ln.mk (ls:=[0,1,3]) (lq (g+1+k) 0 (.ptr 0 0) L1 [ue,dN x.owner,eh x.at_] (.inr rfl) (by simp) (by simp) (by rw[←Bb];exact jW));rw[←Bb]at hl;simp only[V1,V5,pA]at hl;have c1:Xo #[117,115,101,114]=bs ue:=rfl;generalize bs ue=B1 at*;generalize bs (dN x.owner)=B2 at*;generalize bs (eh x.at_)=B3 at*;replace Bb:=VZ Bb;clear jW;refine aF ?_;refine hC _ _ trivial ?_;rw[cv.out];exact wf
  ·have Bb:lu x=cI [uf,dN x.owner,eh x.at_]:=by unfold lu;rw[if_neg (by omega),if_pos hkd]
   have hl:=Ln.mk (ls:=[0,1,3]) (lq (g+1+k) 0 (.ptr 0 0) L1 [uf,dN x.owner,eh x.at_] (.inr rfl) (by simp) (by simp) (by rw[←Bb];exact jW));rw[←Bb]at hl;simp only[V1,V5,pA]at hl;have c1:Xo #[110,101,115,116]=bs uf:=rfl;generalize bs uf=B1 at*;generalize bs (dN x.owner)=B2 at*;generalize bs (eh x.at_)=B3 at*;replace Bb:=VZ Bb;clear jW;refine aF ?_;refine hC _ _ trivial ?_;rw[cv.out];exact wf
  ·have Bb:lu x=cI [ug,dN x.till,eh x.at_]:=by unfold lu;rw[if_neg (by omega),if_neg (by omega)]
   have hl:=Ln.mk (ls:=[0,1,3]) (lq (g+1+k) 0 (.ptr 0 0) L1 [ug,dN x.till,eh x.at_] (.inr rfl) (by simp) (by simp) (by rw[←Bb];exact jW));rw[←Bb]at hl;simp only[V1,V5,pA]at hl;have c1:Xo #[99,111,111,108]=bs ug:=rfl;generalize bs ug=B1 at*;generalize bs (dN x.till)=B2 at*;generalize bs (eh x.at_)=B3 at*;replace Bb:=VZ Bb;clear jW;refine aF ?_;refine hC _ _ trivial ?_;rw[cv.out];exact wf
 ·intro _ C;rw[V4];refine aF ?_;exact aP rfl rfl
def CF:List UInt8:=[110,101,116]
def qB:List UInt8:=[114,97,110,103,101]
def CG:List UInt8:=[115,117,98]
def mG:List UInt8:=[102,97,99,101]
def qC (r:Rng):List UInt8:=cI [qB,eh r.at_,dN r.pool]
def oy (f:Fce):List UInt8:=cI (mG::dN f.id::f.addrs.map dN)
def pB (s:Sbn):List UInt8:=cI [CG,dN s.id,eh s.at_]++s.faces.flatMap oy
def mH (v:Vpc):List UInt8:=cI [CF,dN v.id]++v.ranges.flatMap qC++v.subs.flatMap pB
structure FceT (f:Fce):Prop where
 id:Nn f.id
 n:f.addrs.length≤90
 ad:∀a∈f.addrs,Nn a
structure SbnT (s:Sbn):Prop where
 id:Nn s.id
 at_:s.at_.right=true
 n:s.faces.length≤1000
 fc:∀f∈s.faces,FceT f
structure VpcT (v:Vpc):Prop where
 id:Nn v.id
 nr:v.ranges.length≤1000
 rg:∀r∈v.ranges,r.at_.right=true∧Nn r.pool
 ns:v.subs.length≤1000
 sb:∀s∈v.subs,SbnT s
def gS (l:List Sbn):Nat:=(l.map fun s=>1+s.faces.length).sum
theorem LU {l:List Sbn}{k:Nat}{x:Sbn}(h:l[k]? =some x):gS (l.take (k+1))=gS (l.take k)+1+x.faces.length:=by
 unfold gS;rw[aj h,V6,List.sum_append];simp;omega
theorem Ok (g:Nat)(l:List UInt8)(v:Vpc)(hp:VpcT v)(bc:l.length+(mH v).length≤1000000000):
 MSpec prog 34 [.ptr 0 0,.d (.agg (aG v))] [.box 78 [.ptr 0 0,.own 1 g],.row 5 1 g (aa (cL l))] (.d (.tup []))
  [.box 78 [.ptr 0 0,.own 1 (g+1+v.ranges.length+gS v.subs)],.row 5 1 (g+1+v.ranges.length+gS v.subs) (aa (cL (l++mH v)))]:=by
 have i1:=hZ v.id hp.id;have QV:=hp.nr;have OQ:=hp.ns;have Vz:=VZ hp.rg;have wN:=VZ hp.sb;obtain⟨L0,yk⟩:∃L0,L0=l++cI [CF,dN v.id]:=⟨_,rfl⟩;obtain⟨L9,Rm⟩:∃L9,L9=L0++v.ranges.flatMap qC:=⟨_,rfl⟩;have hT:l++mH v=L9++v.subs.flatMap pB:=by rw[Rm,yk];unfold mH;simp only[WE]
 have bR:L9.length+(v.subs.flatMap pB).length≤1000000000:=by rw[←V9,←hT,V9];exact bc
 have JP:L0.length+(v.ranges.flatMap qC).length≤1000000000:=by rw[Rm,V9]at bR;omega
 have hl:=Ln.mk (ls:=[0,1,3]) (lq g 0 (.ptr 0 0) l [CF,dN v.id] (.inr rfl) (by simp) (by simp) (by rw[←V9,←yk];omega));rw[←yk]at hl;rw[hT];simp only[V1,V5,pA]at hl;have c1:Xo #[110,101,116]=bs CF:=rfl;generalize bs CF=B1 at*;generalize bs (dN v.id)=B3 at*;clear hp bc hT;replace yk:=VZ yk;replace Rm:=VZ Rm;replace bR:=VZ bR;replace JP:=VZ JP;refine mj func34 ntmps34 results34 ?_;refine aF ?_;clear i1 hl c1;refine bP ah av v.ranges (fun _=>True) (fun k=>[(22,.d (.v (.int .i64 k))),(21,.d (.v (.int .i64 v.ranges.length))),(20,.d (.sl 3 (v.ranges.map cf))),(0,.ptr 0 0),(3,.ptr 2 0)])
  (fun k=>[.box 78 [.ptr 0 0,.own 1 (g+1+k)],.row 5 1 (g+1+k) (aa (cL (L0++(v.ranges.take k).flatMap qC))),.box 88 ((aG v).map .d)]) trivial ?_ ?_ ?_
 ·simp only[XH,Yj,WV];exact wf
 ·intro k x hx hk _ C hC;have g8:(k:Int) < (v.ranges.length:Int):=by omega
  have ed:=wi k (by omega);obtain⟨Uq,OG⟩:=Vz.out x (V0 hx);have lI:=lv hx qC;have hle:=uh v.ranges (k+1) qC;rw[lI,V9]at hle;have i3:=hZ x.pool OG;have s2:=sf x.at_ Uq;clear Uq OG;obtain⟨L1,mQ⟩:∃L1,L1=L0++(v.ranges.take k).flatMap qC:=⟨_,rfl⟩;have jW:L1.length+(qC x).length≤1000000000:=by rw[mQ,V9];have:=JP.out;omega
  rw[←mQ];have cv:L0++(v.ranges.take (k+1)).flatMap qC=L1++qC x:=by rw[lI,mQ,WE]
  replace cv:=VZ cv;replace mQ:=VZ mQ;clear lI hle;have hl:=Ln.mk (ls:=[0,1,4]) (lq (g+1+k) 0 (.ptr 0 0) L1 [qB,eh x.at_,dN x.pool] (.inr rfl) (by simp) (by simp) jW);change Ln _ _ _ _ _ _ [_,.row _ _ _ (aa (cL (L1++qC x))),_]at hl;simp only[V1,V5,pA]at hl;have c1:Xo #[114,97,110,103,101]=bs qB:=rfl;generalize bs qB=B1 at*;generalize bs (dN x.pool)=B2 at*;generalize bs (eh x.at_)=B3 at*;clear jW;refine aF ?_;refine hC _ _ trivial ?_;rw[cv.out];exact wf
 ·intro _ C;rw[V4,←Rm.out];refine aF ?_;obtain⟨G,hG⟩:∃G,G=g+1+v.ranges.length:=⟨_,rfl⟩;rw[←hG];have g0:gS []=0:=rfl;refine bP ah av v.subs (fun _=>True) (fun k=>[(39,.d (.v (.int .i64 k))),(38,.d (.v (.int .i64 v.subs.length))),(37,.d (.sl 4 (v.subs.map bw))),(0,.ptr 0 0)])
   (fun k=>[.box 78 [.ptr 0 0,.own 1 (G+gS (v.subs.take k))],.row 5 1 (G+gS (v.subs.take k)) (aa (cL (L9++(v.subs.take k).flatMap pB)))]) trivial ?_ ?_ ?_
  ·simp only[XH,Yj,WV,g0,Wz];exact wf
  ·intro k x hx hk _ C hC;have g8:(k:Int) < (v.subs.length:Int):=by omega
   have ed:=wi k (by omega);have JO:=wN.out x (V0 hx);have lI:=lv hx pB;have hle:=uh v.subs (k+1) pB;rw[lI,V9]at hle;have i3:=hZ x.id JO.id;have s2:=sf x.at_ JO.at_;have VU:=JO.n;have Ql:=VZ JO.fc;obtain⟨L1,mQ⟩:∃L1,L1=L9++(v.subs.take k).flatMap pB:=⟨_,rfl⟩;have jW:L1.length+(pB x).length≤1000000000:=by rw[mQ,V9];have:=bR.out;omega
   rw[←mQ];obtain⟨L2,Rn⟩:∃L2,L2=L1++cI [CG,dN x.id,eh x.at_]:=⟨_,rfl⟩;have Pc:L1++pB x=L2++x.faces.flatMap oy:=by rw[Rn];unfold pB;rw[WE]
   have Pd:L2.length+(x.faces.flatMap oy).length≤1000000000:=by rw[←V9,←Pc,V9];exact jW
   have cv:L9++(v.subs.take (k+1)).flatMap pB=L2++x.faces.flatMap oy:=by rw[lI,←WE,←mQ,Pc]
   have JQ:G+gS (v.subs.take (k+1))=G+gS (v.subs.take k)+1+x.faces.length:=by rw[LU hx];omega
   generalize gS (v.subs.take k)=gk at*;have hl:=Ln.mk (ls:=[0,1,3]) (lq (G+gk) 0 (.ptr 0 0) L1 [CG,dN x.id,eh x.at_] (.inr rfl) (by simp) (by simp) (by rw[←V9,←Rn];omega));rw[←Rn]at hl;simp only[V1,V5,pA]at hl;have c1:Xo #[115,117,98]=bs CG:=rfl;generalize bs CG=B1 at*;generalize bs (dN x.id)=B2 at*;generalize bs (eh x.at_)=B3 at*;replace cv:=VZ cv;replace JQ:=VZ JQ;replace mQ:=VZ mQ;replace Rn:=VZ Rn;replace Pd:=VZ Pd;replace hG:=VZ hG;clear lI hle jW JO Pc;refine aF ?_;clear hl c1 i3 s2;refine bP ah av x.faces (fun _=>True) (fun j=>[(55,.d (.v (.int .i64 j))),(54,.d (.v (.int .i64 x.faces.length))),(53,.d (.sl 2 (x.faces.map cO))),(0,.ptr 0 0),(39,.d (.v (.int .i64 k))),(38,.d (.v (.int .i64 v.subs.length))),(37,.d (.sl 4 (v.subs.map bw)))])
    (fun j=>[.box 78 [.ptr 0 0,.own 1 (G+gk+1+j)],.row 5 1 (G+gk+1+j) (aa (cL (L2++(x.faces.take j).flatMap oy)))]) trivial ?_ ?_ ?_
   ·simp only[XH,Yj,WV];exact wf
   ·intro j f hf hj _ C2 vm;have oF:(j:Int) < (x.faces.length:Int):=by omega
    have Bc:=wi j (by omega);have RP:=Ql.out f (V0 hf);have lI:=lv hf oy;have hle:=uh x.faces (j+1) oy;rw[lI,V9]at hle;have i3:=hZ f.id RP.id;have Tk:=RP.n;have Gy:=VZ RP.ad;obtain⟨L3,Ro⟩:∃L3,L3=L2++(x.faces.take j).flatMap oy:=⟨_,rfl⟩;have Rp:L3.length+(oy f).length≤1000000000:=by rw[Ro,V9];have:=Pd.out;omega
    rw[←Ro];have wO:L2++(x.faces.take (j+1)).flatMap oy=L3++oy f:=by rw[lI,←WE,←Ro]
    have hl:=Ln.mk (ls:=[0,1,3]) (lq (G+gk+1+j) f.addrs.length (.ptr 0 0) L3 (mG::dN f.id::f.addrs.map dN) (.inr rfl) (by simp) (by simp;omega) Rp);change Ln _ _ _ _ _ _ [_,.row _ _ _ (aa (cL (L3++oy f))),_]at hl;rw[xR]at hl;have c1:Xo #[102,97,99,101]=bs mG:=rfl;replace wO:=VZ wO;replace Ro:=VZ Ro;clear lI hle Rp RP;refine aF ?_;refine bP ah av f.addrs (fun _=>True) (fun m=>[(66,.d (.v (.int .i64 m))),(65,.d (.v (.int .i64 f.addrs.length))),(64,.d (.sl 1 (f.addrs.map dI))),(10,.own 3 m),(0,.ptr 0 0),(55,.d (.v (.int .i64 j))),(54,.d (.v (.int .i64 x.faces.length))),(53,.d (.sl 2 (x.faces.map cO))),(39,.d (.v (.int .i64 k))),(38,.d (.v (.int .i64 v.subs.length))),(37,.d (.sl 4 (v.subs.map bw)))])
     (fun m=>[.box 78 [.ptr 0 0,.own 1 (G+gk+1+j)],.row 5 1 (G+gk+1+j) (aa (cL L3)),.box 110 ((cO f).map .d),.row 9 1 m (aa ((mG::dN f.id::(f.addrs.take m).map dN).map uc))]) trivial ?_ ?_ ?_
    ·exact wf
    ·intro m a ha hm _ C3 Td;have TN:(m:Int) < (f.addrs.length:Int):=by omega
     have OR:=wi m (by omega);have i4:=hZ a (Gy.out a (V0 ha));have hW:(mG::dN f.id::(f.addrs.take (m+1)).map dN).map uc=(mG::dN f.id::(f.addrs.take m).map dN).map uc++[[.v (.string (bs (dN a)))]]:=by rw[aj ha];simp[uc]
     have VV:((mG::dN f.id::(f.addrs.take m).map dN).map uc).length=m+2:=by simp;omega
     have Eg:m+2+1≤100:=by omega
     generalize (mG::dN f.id::(f.addrs.take m).map dN).map uc=W at*;replace hW:=VZ hW;clear hl;refine aF ?_;refine Td _ _ trivial ?_;rw[hW.out,←bi];exact wf (hbh:=by simp[ay,aH,af,ag,an,aK,bi])
    ·intro _ C3;rw[V4];generalize (mG::dN f.id::f.addrs.map dN).map uc=W at*;refine aF ?_;refine vm _ _ trivial ?_;rw[wO.out];exact wf
   ·intro _ C2;rw[V4];refine aF ?_;refine hC _ _ trivial ?_;rw[cv.out,JQ.out];exact wf
  ·intro _ C2;rw[V4];subst hG;refine aF ?_;exact aP rfl rfl
section
open Go.Proofs
theorem va (t:List UInt8)(bc:t.length≤140737488355328):
 MSpec prog 63 [.ptr 0 0,.d (.v (.string (bs t)))] [.box 78 [.d (.v (.pointer none)),.d (.v (.slice none 0 0))]] (.d (.tup [.v (.int .i64 t.length),.v .nilIface]))
  [.box 78 [.ptr 0 0,.own 1 0],.row 5 1 0 (aa (cL t))]:=by
 refine⟨ce func63 (by kernel_rfl) rfl,by simp,rfl,rfl,fun X hP hn hm w c vs hR cZ=>?_⟩;obtain⟨v1,pF⟩:∃u,vs[0]? =some u:=⟨_,VY (by rw[←cZ.1];simp)⟩;obtain⟨v2,Js⟩:∃u,vs[1]? =some u:=⟨_,VY (by rw[←cZ.1];simp)⟩;have ha:=cZ.2 0 _ _ rfl pF;have hb:=cZ.2 1 _ _ rfl Js;have qI:vs=[v1,v2]:=by
  match vs,cZ.1,pF,Js with
  |[a,b],_,h0,h1=>cases h0;cases h1;rfl
 subst qI;clear pF Js;have h0:=hR.chunk 0;cases h0 with
 |box _ _ b us oz hh hr h1'=>
  obtain⟨u0,Ur⟩:∃u,us[0]? =some u:=⟨_,VY (by rw[←hr.1];simp)⟩;obtain⟨u1,Us⟩:∃u,us[1]? =some u:=⟨_,VY (by rw[←hr.1];simp)⟩;have q0:=hr.2 0 _ _ rfl Ur;have q1:=hr.2 1 _ _ rfl Us;have VA:us=[u0,u1]:=by
   match us,hr.1,Ur,Us with
   |[a,b],_,h0,h1=>cases h0;cases h1;rfl
  subst VA;cases q0 with
  |d _ _ q0=>
   cases q0;cases q1 with
   |d _ _ q1=>
    cases q1;cases ha with
    |ptr _ _ b' hb'=>
     rw[oz]at hb';cases hb';cases hb with
     |d _ _ hd=>
      cases hd;refine(lC b none (.slice none 0 0) 0 [] (bs t) w hh (.inl rfl) .nil (by simp[cm]) (by rw[eO];omega)).mono ?_;rintro e w' ⟨rfl,v',w2,da,cV,Gs,rfl⟩;rw[eO,Wn]at cV;rw[eO];have r1:=hR.set_box (k:=0) (T:=78) (cells:=[.d (.v (.pointer none)),.d (.v (.slice none 0 0))]) (cells':=[.ptr 0 0,.d (.v (.slice none 0 0))]) (vs:=[.pointer none,.slice none 0 0]) (vs':=[.pointer (some ⟨b,0,none⟩),.slice none 0 0]) rfl oz hh
       ⟨rfl,fun j d x hj hx=>by
        match j with
        |0=>cases hj;cases hx;exact .ptr 0 0 b oz
        |1=>cases hj;cases hx;exact .d _ _ (.v _)
        |j+2=>simp at hj⟩ (by intro d hd;simp at hd;rcases hd with rfl|rfl<;>rfl)
      have nh:cW (w.setRow b #[.pointer (some ⟨b,0,none⟩),.slice none 0 0]) w2:=⟨da.os,da.tape,da.output,da.size,fun k hk=>da.block k hk (by simp[cm])⟩;obtain⟨c',r2,r3⟩:=r1.new_row (k:=1) (w':=w2) rfl (by rw[hm];simp) 5 1 (aa (cL t)) v' (XJ t) nh (by rw[show (aa (cL t)).length=t.length from qA t];simpa[Lib.strCells_eq,D9]using cV)
       (fun b' hb'=>Gs.elim (fun e=>by rw[e]at hb';cases hb') (fun e=>e b' hb')) (wH t) (AO t) (wI t)
      have JN:c'.bl 0=some b:=by rw[(r2.lent 0 (by rw[hm];exact Yh _)).1,←(hR.lent 0 (by rw[hm];exact Yh _)).1];exact oz
      have hlt:b < (w.setRow b #[.pointer (some ⟨b,0,none⟩),.slice none 0 0]).heap.size:=by
       rcases Wv b (w.setRow b #[.pointer (some ⟨b,0,none⟩),.slice none 0 0]).heap.size with h|h
       ·exact h
       ·have:=setRow_heap w b _ #[.pointer (some ⟨b,0,none⟩),.slice none 0 0] _ _ hh;rw[WT h]at this;cases this
      have lx:w2.heap[b]? =some (.cells #[.pointer (some ⟨b,0,none⟩),.slice none 0 0] 78 (0,0)):=by
       rw[da.block b hlt (by simp[cm])];exact setRow_heap w b _ _ _ _ hh
      have r4:=r2.set_box (k:=0) (T:=78) (cells:=[.ptr 0 0,.d (.v (.slice none 0 0))]) (cells':=[.ptr 0 0,.own 1 0]) (vs:=[.pointer (some ⟨b,0,none⟩),.slice none 0 0]) (vs':=[.pointer (some ⟨b,0,none⟩),v']) rfl JN lx
       ⟨rfl,fun j d x hj hx=>by
        match j with
        |0=>cases hj;cases hx;exact .ptr 0 0 b JN
        |1=>cases hj;cases hx;exact r3
        |j+2=>simp at hj⟩ (by intro d hd;simp at hd;rcases hd with rfl|rfl<;>rfl)
      refine⟨_,c',rfl,.d _ _ (.tup _ [_,_] rfl fun j d x hj hx=>?_),?_⟩
      ·match j with
       |0=>cases hj;cases hx;exact .v _
       |1=>cases hj;cases hx;exact .v _
       |j+2=>simp at hj
      ·exact xQ r4 rfl fun k=>by match k with|0=>rfl|1=>rfl|k+2=>rfl
theorem Ol (gw:Nat)(ws:List (List UInt8))(h0:ws≠[])(hn:ws.length≤1000)(bc:(cI ws).length≤1000000000):
 MSpec prog 31 [.ptr 0 0,.own 1 gw] [.box 78 [.d (.v (.pointer none)),.d (.v (.slice none 0 0))],.row 9 1 gw (ws.map pA)] (.d (.tup []))
  [.box 78 [.ptr 0 0,.own 2 0],.gone,.row 5 1 0 (aa (cL (cI ws)))]:=by
 have yj:(cI ws).length=(YC ws [32]).length+1:=by simp[cI]
 have hj:=Ln.mk (ls:=[1]) (I8 gw ws [32] h0 (by omega) (by omega));have hw:=Ln.mk (ls:=[0]) (va (cI ws) (by omega));have c1:Xo #[32]=bs [32]:=rfl;have c2:Xo #[10]=bs [10]:=rfl;have e:bs (YC ws [32])++bs [10]=bs (cI ws):=ln _ _;have hs:(bs (YC ws [32])).size+(bs [10]).size≤9223372036854775807:=by rw[eO,eO];simp;omega
 rw[xR]at*;generalize ws.map uc=W at*;generalize bs (YC ws [32])=J at*;generalize bs [32]=B at*;generalize bs [10]=N at*;generalize cL (cI ws)=R2 at*;generalize bs (cI ws)=T at*;clear h0 hn bc yj;refine mj func31 ntmps31 results31 ?_;refine aF ?_;exact aP rfl rfl
def ui:List UInt8:=[116,105,99,107]
def wJ:List UInt8:=[108,105,110,107]
def qD (k:Lnk):List UInt8:=cI [wJ,dN k.a,dN k.b]
def CH (s:Ste):List UInt8:=cI [ui,dN s.book.tick]++s.book.pools.flatMap mF++s.net.vpcs.flatMap mH++s.net.links.flatMap qD
structure SteT (s:Ste):Prop where
 tick:Nn s.book.tick
 np:s.book.pools.length≤1000
 ps:∀p∈s.book.pools,PolT p
 nv:s.net.vpcs.length≤1000
 vs:∀v∈s.net.vpcs,VpcT v
 nl:s.net.links.length≤1000
 ls:∀k∈s.net.links,Nn k.a∧Nn k.b
 len:(CH s).length≤1000000000
def gP (l:List Pol):Nat:=(l.map fun p=>1+p.leases.length).sum
theorem LV {l:List Pol}{k:Nat}{x:Pol}(h:l[k]? =some x)(G:Nat):G+gP (l.take (k+1))=G+gP (l.take k)+1+x.leases.length:=by
 unfold gP;rw[aj h,V6,List.sum_append];simp;omega
def gV (l:List Vpc):Nat:=(l.map fun v=>1+v.ranges.length+gS v.subs).sum
theorem LW {l:List Vpc}{k:Nat}{x:Vpc}(h:l[k]? =some x)(G:Nat):G+gV (l.take (k+1))=G+gV (l.take k)+1+x.ranges.length+gS x.subs:=by
 unfold gV;rw[aj h,V6,List.sum_append];simp;omega
end
theorem LX (s:Ste)(hs:SteT s)(h:ig s=0):ae prog 15 [.agg (gO s)] (.tup [.v (.string (bs (CH s))),.v (.int .i64 0)]):=by
 have hc:=Ae s (fun p hp=>by have:=(hs.ps p hp).n;omega);rw[h]at hc;have i1:=hZ s.book.tick hs.tick;have VW:=hs.np;have VX:=hs.nv;have yd:=hs.nl;have jn:=VZ hs.ps;have qI:=VZ hs.vs;have C6:=VZ hs.ls;obtain⟨L0,yk⟩:∃L0,L0=cI [ui,dN s.book.tick]:=⟨_,rfl⟩;obtain⟨L7,Pw⟩:∃L7,L7=L0++s.book.pools.flatMap mF:=⟨_,rfl⟩;obtain⟨L8,Px⟩:∃L8,L8=L7++s.net.vpcs.flatMap mH:=⟨_,rfl⟩;have hT:CH s=L8++s.net.links.flatMap qD:=by rw[Px,Pw,yk];rfl
 have bc:=hs.len;rw[hT,V9]at bc;have Er:L7.length+(s.net.vpcs.flatMap mH).length≤1000000000:=by rw[Px,V9]at bc;omega
 have JR:L0.length+(s.book.pools.flatMap mF).length≤1000000000:=by rw[Pw,V9]at Er;omega
 have bq:CH s≠[]:=by
  intro e;have:=congrArg List.length e;rw[hT,Px,Pw,yk]at this;simp[cI]at this
 have hl:=Ln.mk (ls:=[1,2]) (Ol 0 [ui,dN s.book.tick] (by simp) (by simp) (by rw[←yk];omega));rw[←yk]at hl;have MA:=fun g=>I5 g (CH s) bq;rw[hT]at MA ⊢;simp only[V1,V5,pA]at hl;have c1:Xo #[116,105,99,107]=bs ui:=rfl;generalize bs ui=B1 at*;generalize bs (dN s.book.tick)=B2 at*;clear hs h hT bq;replace yk:=VZ yk;replace Pw:=VZ Pw;replace Px:=VZ Px;replace bc:=VZ bc;replace JR:=VZ JR;replace Er:=VZ Er;replace MA:=VZ MA;refine pj func15 ntmps15 results15 ?_;refine aF ?_;clear i1 hl c1 hc;have g0:gP []=0:=rfl;have g1:gV []=0:=rfl;refine bP ah av s.book.pools (fun _=>True) (fun k=>[(30,.d (.v (.int .i64 k))),(29,.d (.v (.int .i64 s.book.pools.length))),(28,.d (.sl 9 (s.book.pools.map al))),(5,.ptr 1 0),(1,.ptr 0 0)])
  (fun k=>[.box 36 ((gO s).map .d),.box 78 [.ptr 1 0,.own 3 (0+gP (s.book.pools.take k))],.gone,.row 5 1 (0+gP (s.book.pools.take k)) (aa (cL (L0++(s.book.pools.take k).flatMap mF)))]) trivial ?_ ?_ ?_
 ·simp only[XH,Yj,WV,g0,Wz];exact wf
 ·intro k x hx hk _ C hC;have g8:(k:Int) < (s.book.pools.length:Int):=by omega
  have ed:=wi k (by omega);have lI:=lv hx mF;have hle:=uh s.book.pools (k+1) mF;rw[lI,V9]at hle;obtain⟨L1,mQ⟩:∃L1,L1=L0++(s.book.pools.take k).flatMap mF:=⟨_,rfl⟩;have jW:L1.length+(mF x).length≤1000000000:=by rw[mQ,V9];have:=JR.out;omega
  rw[←mQ];have cv:L0++(s.book.pools.take (k+1)).flatMap mF=L1++mF x:=by rw[lI,←WE,←mQ]
  have JQ:=LV hx 0;have C8:=Ln.mk (ls:=[1,3]) (Oj (0+gP (s.book.pools.take k)) L1 x (jn.out x (V0 hx)) jW);generalize 0+gP (s.book.pools.take k)=gk at*;replace cv:=VZ cv;replace mQ:=VZ mQ;replace JQ:=VZ JQ;clear lI hle jW;refine aF ?_;refine hC _ _ trivial ?_;rw[cv.out,JQ.out];exact wf
 ·intro _ C;rw[V4,←Pw.out];generalize 0+gP s.book.pools=G;refine aF ?_;refine bP ah av s.net.vpcs (fun _=>True) (fun k=>[(42,.d (.v (.int .i64 k))),(41,.d (.v (.int .i64 s.net.vpcs.length))),(40,.d (.sl 3 (s.net.vpcs.map aG))),(5,.ptr 1 0),(1,.ptr 0 0)])
   (fun k=>[.box 36 ((gO s).map .d),.box 78 [.ptr 1 0,.own 3 (G+gV (s.net.vpcs.take k))],.gone,.row 5 1 (G+gV (s.net.vpcs.take k)) (aa (cL (L7++(s.net.vpcs.take k).flatMap mH)))]) trivial ?_ ?_ ?_
  ·simp only[XH,Yj,WV,g1,Wz];exact wf
  ·intro k x hx hk _ C hC;have g8:(k:Int) < (s.net.vpcs.length:Int):=by omega
   have ed:=wi k (by omega);have lI:=lv hx mH;have hle:=uh s.net.vpcs (k+1) mH;rw[lI,V9]at hle;obtain⟨L1,mQ⟩:∃L1,L1=L7++(s.net.vpcs.take k).flatMap mH:=⟨_,rfl⟩;have jW:L1.length+(mH x).length≤1000000000:=by rw[mQ,V9];have:=Er.out;omega
   rw[←mQ];have cv:L7++(s.net.vpcs.take (k+1)).flatMap mH=L1++mH x:=by rw[lI,←WE,←mQ]
   have JQ:=LW hx G;have C8:=Ln.mk (ls:=[1,3]) (Ok (G+gV (s.net.vpcs.take k)) L1 x (qI.out x (V0 hx)) jW);generalize G+gV (s.net.vpcs.take k)=gk at*;replace cv:=VZ cv;replace mQ:=VZ mQ;replace JQ:=VZ JQ;clear lI hle jW;refine aF ?_;refine hC _ _ trivial ?_;rw[cv.out,JQ.out];exact wf
  ·intro _ C;rw[V4,←Px.out];generalize G+gV s.net.vpcs=G2;refine aF ?_;refine bP ah av s.net.links (fun _=>True) (fun k=>[(54,.d (.v (.int .i64 k))),(53,.d (.v (.int .i64 s.net.links.length))),(52,.d (.sl 2 (s.net.links.map cA))),(5,.ptr 1 0)])
    (fun k=>[.gone,.box 78 [.ptr 1 0,.own 3 (G2+k)],.gone,.row 5 1 (G2+k) (aa (cL (L8++(s.net.links.take k).flatMap qD)))]) trivial ?_ ?_ ?_
   ·simp only[XH,Yj,WV,Wz];exact(aN 0 (by simp)).trans wf
   ·intro k x hx hk _ C hC;have g8:(k:Int) < (s.net.links.length:Int):=by omega
    have ed:=wi k (by omega);have lI:=lv hx qD;have hle:=uh s.net.links (k+1) qD;rw[lI,V9]at hle;obtain⟨ha,hb⟩:=C6.out x (V0 hx);have i2:=hZ x.a ha;have i3:=hZ x.b hb;obtain⟨L1,mQ⟩:∃L1,L1=L8++(s.net.links.take k).flatMap qD:=⟨_,rfl⟩;have jW:L1.length+(qD x).length≤1000000000:=by rw[mQ,V9];have:=bc.out;omega
    rw[←mQ];have cv:L8++(s.net.links.take (k+1)).flatMap qD=L1++qD x:=by rw[lI,←WE,←mQ]
    have hl:=Ln.mk (ls:=[1,3,5]) (lq (G2+k) 0 (.ptr 0 0) L1 [wJ,dN x.a,dN x.b] (.inr rfl) (by simp) (by simp) jW);change Ln _ _ _ _ _ _ [_,.row _ _ _ (aa (cL (L1++qD x))),_]at hl;simp only[V1,V5,pA]at hl;have c1:Xo #[108,105,110,107]=bs wJ:=rfl;generalize bs wJ=B1 at*;generalize bs (dN x.a)=B2 at*;generalize bs (dN x.b)=B3 at*;replace cv:=VZ cv;replace mQ:=VZ mQ;clear lI hle jW ha hb;refine aF ?_;refine hC _ _ trivial ?_;rw[cv.out];exact wf
   ·intro _ C;rw[V4];have jv:=Ln.mk (ls:=[1,3]) (MA.out (G2+s.net.links.length));unfold fE at jv;generalize bs (L8++s.net.links.flatMap qD)=T at*;exact bx
theorem I9 (ws:List (List UInt8))(B:Nat)(h:∀w∈ws,w.length≤B):(Lib.joinTail [32] ws).length≤ws.length*(B+1):=by
 induction ws with
 |nil=>simp[Lib.joinTail]
 |cons x r ih=>
  have h1:=h x (by simp);have h2:=ih fun w hw=>h w (XG _ hw);unfold Lib.joinTail at h2 ⊢;simp only[V1,Xe,V9,Wc,WM,XV]at h2 ⊢;omega
theorem fe (ws:List (List UInt8))(B:Nat)(h:∀w∈ws,w.length≤B):(cI ws).length≤ws.length*(B+1)+1:=by
 unfold cI;rw[V9];cases ws with
 |nil=>rw[Lib.join_nil];simp
 |cons x r=>
  have h1:=h x (by simp);have h2:=I9 r B fun w hw=>h w (XG _ hw);rw[Lib.join_cons,V9];simp only[Wc,WM,XV]at h2 ⊢;omega
theorem lw {α:Type}(l:List α)(f:α→List UInt8)(B:Nat)(h:∀x∈l,(f x).length≤B):(l.flatMap f).length≤l.length*B:=by
 induction l with
 |nil=>simp
 |cons x r ih=>
  have h1:=h x (by simp);have h2:=ih fun w hw=>h w (XG _ hw);simp only[List.flatMap_cons,V9,Wc,XV];omega
theorem lD (n:Int)(h:Nn n):(dN n).length≤60:=by
 have:=ox n.toNat (by have:=h.1;have:=h.2;omega);unfold dN;omega
theorem xS {p:Pfx}(h:p.right=true):(eh p).length≤60:=by
 obtain⟨h1,h2,h3,h4⟩:=CE h;have a1:=ox (p.at_.toNat / 256) (by omega);have a2:=ox (p.at_.toNat % 256) (by omega);have a3:=ox p.len.toNat (by omega);unfold eh;simp only[V9,Wc];omega
theorem xT {n:Int}(h:gU n=true):Nn n:=by
 unfold gU at h;simp only[Wd,decide_eq_true_eq]at h;exact⟨by omega,by omega⟩
theorem AQ {n:Int}(h:du n=true):Nn n:=by
 unfold du at h;simp only[Wd,decide_eq_true_eq]at h;exact⟨by omega,by omega⟩
theorem Rv:Nn 0:=⟨by omega,by omega⟩
theorem Ja {p q:Pfx}(h:kV p q=true):p.right=true:=(mo.1 h).1
theorem LY {b:Bok}(hb:BookOK b){p:Pol}{x:Lse}(hx:x∈p.leases)(hp:p∈b.pools):LseT x:=by
 obtain⟨-,h2,-⟩:=hb.mem p hp;have hs:=xB.1 h2;have hl:=(gB b.pools [] hb.second p hp).2 x hx;have ha:=Ja (hs.ins x.at_ (Wp.2 ⟨x,hx,rfl⟩));have ht:=hb.tick;unfold iB at hl;by_cases h1:x.kind=1
 ·rw[if_pos (by simpa using h1)]at hl;simp only[Wd,beq_iff_eq]at hl;exact⟨ha,.inl h1,xT hl.1,hl.2 ▸ Rv⟩
 ·rw[if_neg (by simpa using h1)]at hl;by_cases h3:x.kind=2
  ·rw[if_pos (by simpa using h3)]at hl;cases hq:cH b x.owner with
   |none=>rw[hq]at hl;cases hl
   |some q=>
    rw[hq]at hl;simp only[Wd,beq_iff_eq]at hl;obtain⟨i,hi,ho⟩:=fC hq;exact⟨ha,.inr (.inl h3),ho ▸ xT (hb.mem q (V0 hi)).1,hl.2.2 ▸ Rv⟩
  ·rw[if_neg (by simpa using h3)]at hl;split at hl
   ·rename_i h4;simp only[Wd,beq_iff_eq,decide_eq_true_eq]at hl;refine⟨ha,.inr (.inr (by simpa using h4)),hl.1 ▸ Rv,?_⟩;obtain⟨-,h5,h6⟩:=hl;exact⟨by omega,by omega⟩
   ·cases hl
theorem Ea {b:Bok}(hb:BookOK b){p:Pol}(hp:p∈b.pools):PolT p:=by
 obtain⟨h1,h2,-⟩:=hb.mem p hp;have hu:=(gB b.pools [] hb.second p hp).1;have jK:=hb.l32 p hp;refine⟨xT h1,?_,(xB.1 h2).rr,by omega,fun x hx=>LY hb hx hp⟩;have h8:b.pools.length≠0:=by
  intro e;rw[WA e]at hp;cases hp
 obtain⟨n,hn⟩:∃n,b.pools.length=n+1:=⟨b.pools.length - 1,by omega⟩;rw[hn]at hu;unfold lJ at hu;by_cases h0:p.up=0
 ·rw[h0];exact Rv
 ·cases hq:cH b p.up with
  |none=>rw[hq]at hu;simp[h0]at hu
  |some q=>
   obtain⟨i,hi,ho⟩:=fC hq;exact ho ▸ xT (hb.mem q (V0 hi)).1
theorem Om {p:Pfx}{a:Int}(hr:p.right=true)(h:pc p a=true):Nn a:=by
 obtain⟨h1,h2,h3,h4⟩:=CE hr;have h5:=p.hi_bd hr;unfold pc at h;simp only[Wd,decide_eq_true_eq]at h;unfold Pfx.hi at h5;exact⟨by omega,by omega⟩
theorem LZ {v:Vpc}(hv:VpcOK v){s:Sbn}(hs:s∈v.subs):SbnT s:=by
 have h:=hv.subs s hs;have h8:=hv.n8 s hs;unfold n7 at h;simp only[Wd]at h;obtain⟨h1,h2,h3⟩:=h;unfold fS at h2;obtain⟨r,-,h2⟩:=XK.1 h2;have hr:=Ja h2;unfold eC at h3;simp only[Wd,Wx]at h3;refine⟨AQ h1,hr,by omega,fun f hf=>?_⟩;have h4:=h3.1 f hf;unfold tr at h4;simp only[Wd,Wx]at h4;have h5:=h8.2 f hf;exact⟨AQ h4.1,by omega,fun a ha=>Om hr (h4.2.2.2 a ha)⟩
theorem Eb {v:Vpc}(hv:VpcOK v):VpcT v:=by
 have h4:=hv.n4;have h6:=hv.n6;refine⟨AQ hv.id,by omega,fun r hr=>?_,by omega,fun s hs=>LZ hv hs⟩;have h:=hv.ranges r hr;refine⟨kW h,?_⟩;unfold eU at h;simp only[Wd]at h;exact AQ h.1
theorem On {x:Lse}(h:LseT x):(lu x).length≤184:=by
 have a1:=lD _ h.owner;have a2:=lD _ h.till;have a3:=xS h.at_;unfold lu;split
 ·exact fe [ue,dN x.owner,eh x.at_] 60 (by simp[ue,a1,a3])
 ·split
  ·exact fe [uf,dN x.owner,eh x.at_] 60 (by simp[uf,a1,a3])
  ·exact fe [ug,dN x.till,eh x.at_] 60 (by simp[ug,a2,a3])
theorem Oo {p:Pol}(h:PolT p)(jK:p.leases.length≤32):(mF p).length≤7000:=by
 have a1:=lD _ h.id;have a2:=lD _ h.up;have a3:=xS h.root;have a4:=fe [ud,dN p.id,Oi,dN p.up,eh p.root] 60 (by simp[ud,Oi,a1,a2,a3]);have a5:=lw p.leases lu 184 fun x hx=>On (h.ls x hx);unfold mF;rw[V9];simp only[Wc,WM]at a4;omega
theorem Oq {r:Rng}(h:r.at_.right=true∧Nn r.pool):(qC r).length≤184:=by
 have a1:=lD _ h.2;have a3:=xS h.1;exact fe [qB,eh r.at_,dN r.pool] 60 (by simp[qB,a1,a3])
theorem Ot {f:Fce}(h:FceT f)(h4:f.addrs.length≤4):(oy f).length≤400:=by
 have a1:=lD _ h.id;have a2:=fe (mG::dN f.id::f.addrs.map dN) 60 (by
  intro w hw;rcases WI.1 hw with rfl|hw
  ·simp[mG]
  ·rcases WI.1 hw with rfl|hw
   ·exact a1
   ·obtain⟨a,ha,rfl⟩:=Wp.1 hw;exact lD _ (h.ad a ha))
 unfold oy;simp only[Wc,Wg]at a2;omega
theorem Ou {s:Sbn}(h:SbnT s)(h8:s.faces.length≤8∧∀f∈s.faces,f.addrs.length≤4):(pB s).length≤4000:=by
 have a1:=lD _ h.id;have a3:=xS h.at_;have a4:=fe [CG,dN s.id,eh s.at_] 60 (by simp[CG,a1,a3]);have a5:=lw s.faces oy 400 fun f hf=>Ot (h.fc f hf) (h8.2 f hf);have a6:=h8.1;unfold pB;rw[V9];simp only[Wc,WM]at a4;omega
theorem Ov {v:Vpc}(hv:VpcOK v):(mH v).length≤30000:=by
 have h:=Eb hv;have a1:=lD _ h.id;have a4:=fe [CF,dN v.id] 60 (by simp[CF,a1]);have a5:=lw v.ranges qC 184 fun r hr=>Oq (h.rg r hr);have a6:=lw v.subs pB 4000 fun s hs=>Ou (h.sb s hs) (hv.n8 s hs);have h4:=hv.n4;have h6:=hv.n6;unfold mH;rw[V9,V9];simp only[Wc,WM]at a4;omega
theorem Jb {n:Net}(hn:NetOK n){k:Lnk}(hk:k∈n.links):Nn k.a∧Nn k.b:=by
 have h:=hn.lk k hk;unfold n9 at h;simp only[Wd]at h;have key:∀{x:Int},(d9 n x).isSome=true→Nn x:=fun {x} hx=>by
  obtain⟨v,hv,rfl⟩:=Wp.1 (i5 hx);exact AQ (bt (hn.vp v hv)).id
 exact⟨key h.1,key h.2.1⟩
theorem Ow {k:Lnk}(h:Nn k.a∧Nn k.b):(qD k).length≤184:=by
 have a1:=lD _ h.1;have a2:=lD _ h.2;exact fe [wJ,dN k.a,dN k.b] 60 (by simp[wJ,a1,a2])
theorem L4 {s:Ste}(h:ig s=0):SteT s:=by
 obtain⟨h1,h2⟩:=t0 h;have hb:=d7 h1;have hn:=ic.1 h2;have n8:=hb.n8;have n6:=hn.n6;have n12:=hn.n12;have ht:Nn s.book.tick:=⟨hb.tick.1,by have:=hb.tick.2;omega⟩;have a1:=lD _ ht;have a2:=fe [ui,dN s.book.tick] 60 (by simp[ui,a1]);have a3:=lw s.book.pools mF 7000 fun p hp=>Oo (Ea hb hp) (hb.l32 p hp);have a4:=lw s.net.vpcs mH 30000 fun v hv=>Ov (bt (hn.vp v hv));have a5:=lw s.net.links qD 184 fun k hk=>Ow (Jb hn hk);refine⟨ht,by omega,fun p hp=>Ea hb hp,by omega,fun v hv=>Eb (bt (hn.vp v hv)),by omega,fun k hk=>Jb hn hk,?_⟩;unfold CH;rw[V9,V9,V9];simp only[Wc,WM]at a2;omega
def c0 (op a b c:Int):Cmd:=⟨op,a,b,c,⟨0,0⟩,⟨0,0,0,0⟩⟩
def jk:List Cmd:=[⟨1,7,0,0,⟨256,8⟩,IR⟩,c0 7 1 0 0,c0 7 2 0 0,c0 8 1 7 10,c0 8 2 7 0,c0 15 2 1 0,⟨10,1,4,0,⟨256,14⟩,⟨0,0,0,0⟩⟩,c0 12 1 4 9,⟨9,2,0,0,⟨320,12⟩,⟨0,0,0,0⟩⟩,⟨6,7,0,0,⟨256,10⟩,⟨0,0,0,0⟩⟩]
theorem Ox:ae prog 27 [] (.sl 10 (jk.map fl)):=by
 have h:=LI;refine pj func27 ntmps27 results27 ?_;first|exact bx|(refine aF ?_;exact dz)
def P8:Ste:=⟨⟨0,[⟨7,0,⟨256,8⟩,⟨8,16,12,3⟩,[⟨⟨256,10⟩,1,1,0⟩,⟨⟨320,12⟩,3,0,3⟩]⟩]⟩,⟨[⟨1,[⟨⟨256,10⟩,7⟩],[⟨4,⟨256,14⟩,[⟨9,[257]⟩]⟩]⟩,⟨2,[],[]⟩],[⟨1,2⟩]⟩⟩
theorem Jc:ig P8=0:=by kernel_rfl
theorem Ec:∀c∈jk,pN c=true:=Wx.1 (show jk.all pN=true by decide)
theorem F2:bZ jk=jk.take 9:=by kernel_rfl
theorem L5:dM .zero (jk.take 9)=P8:=by kernel_rfl
theorem Jd:CH P8=[116,105,99,107,32,48,10,112,111,111,108,32,55,32,117,112,32,48,32,49,46,48,47,56,10,117,115,101,114,32,49,32,49,46,48,47,49,48,10,99,111,111,108,32,51,32,49,46,54,52,47,49,50,10,110,101,116,32,49,10,114,97,110,103,101,32,49,46,48,47,49,48,32,55,10,115,117,98,32,52,32,49,46,48,47,49,52,10,102,97,99,101,32,57,32,50,53,55,10,110,101,116,32,50,10,108,105,110,107,32,49,32,50,10]:=by kernel_rfl
theorem AR:ae prog 11 [] (.v (.bool true)):=by
 have h1:=Ox;have Rq:=m9 (nF (jk.take 9));rw[D8 _ (by decide) (fun c hc=>Ec c (WN hc)),L5,show (jk.take 9).length=9 from rfl]at Rq;dsimp only at Rq;have Gg:=LX P8 (L4 Jc) Jc;rw[Jd]at Gg;have c1:Xo (List.toArray (List.append [116,105,99,107,32,48,10,112,111,111,108,32,55,32,117,112,32,48,32,49,46,48,47,56,10,117,115,101,114,32,49,32,49,46,48,47,49,48,10,99,111,111,108,32,51,32,49,46,54,52,47,49,50,10,110,101,116] [32,49,10,114,97,110,103,101,32,49,46,48,47,49,48,32,55,10,115,117,98,32,52,32,49,46,48,47,49,52,10,102,97,99,101,32,57,32,50,53,55,10,110,101,116,32,50,10,108,105,110,107,32,49,32,50,10]))=bs [116,105,99,107,32,48,10,112,111,111,108,32,55,32,117,112,32,48,32,49,46,48,47,56,10,117,115,101,114,32,49,32,49,46,48,47,49,48,10,99,111,111,108,32,51,32,49,46,54,52,47,49,50,10,110,101,116,32,49,10,114,97,110,103,101,32,49,46,48,47,49,48,32,55,10,115,117,98,32,52,32,49,46,48,47,49,52,10,102,97,99,101,32,57,32,50,53,55,10,110,101,116,32,50,10,108,105,110,107,32,49,32,50,10]:=rfl;generalize bs [116,105,99,107,32,48,10,112,111,111,108,32,55,32,117,112,32,48,32,49,46,48,47,56,10,117,115,101,114,32,49,32,49,46,48,47,49,48,10,99,111,111,108,32,51,32,49,46,54,52,47,49,50,10,110,101,116,32,49,10,114,97,110,103,101,32,49,46,48,47,49,48,32,55,10,115,117,98,32,52,32,49,46,48,47,49,52,10,102,97,99,101,32,57,32,50,53,55,10,110,101,116,32,50,10,108,105,110,107,32,49,32,50,10]=T at*;generalize P8=S at*;have cr:=VZ Ec;have bc:jk.length≤10:=by decide
 have e0:nF (bZ (jk.take 0))=⟨#[]⟩:=rfl;have Mf:nF (bZ (jk.take jk.length))=nF (jk.take 9):=by rw[V4,F2]
 generalize nF (jk.take 9)=G at*;generalize jk=P at*;replace e0:=VZ e0;replace Mf:=VZ Mf;refine pj func11 ntmps11 results11 ?_;refine aF ?_;refine bP ah av P (fun _=>True) (fun k=>[(2,.d (.v (.int .i64 k))),(1,.d (.v (.string (nF (bZ (P.take k))))))]) (fun _=>[]) trivial ?_ ?_ ?_
 ·rw[e0.out];exact wf
 ·intro k x hx hk _ C hC;have g8:(k:Int) < (P.length:Int):=by omega
  have ed:=wi k (by omega);have Tp:=cr.out x (V0 hx);have hlt:=qz (P.take k);rw[V2]at hlt;have hs:=D3 (nF (bZ (P.take k))) x;rw[AL _ (by omega) (ua _) x,if_pos Tp]at hs;dsimp only at hs;have hn:bZ (P.take (k+1))=ji (bZ (P.take k)) x:=by rw[aj hx,t9,if_pos Tp]
  generalize ji (bZ (P.take k)) x=K1 at*;generalize bZ (P.take k)=K0 at*;generalize (wD (dM .zero K0) x).2.1=R at*;replace hn:=VZ hn;clear hlt bc Tp;refine aF ?_;refine hC _ _ trivial ?_;rw[hn.out];exact wf
 ·intro _ C;rw[Mf.out];exact bx
section
open Go.Proofs
def vd (c:Int):Int:=if c < 0 then -(c+1)else c
theorem CI (c n:Int)(w:World)(h1: -9223372036854775808≤c)(h2:c≤9223372036854775807)(hn:0 < n):
 Calls prog 14 #[.int .i64 c,.int .i64 n] w fun e w'=>e= .returned (.int .i64 (vd c % n))∧w=w':=by
 by_cases hc:c < 0
 ·have ha:vd c= -(c+1):=by simp[vd,hc]
  rw[ha];go_enter func14,ntmps14
  go_wp2_with fail
  go_ret
  refine⟨bV ?_,rfl⟩;rw[←Int.neg_tmod,Int.tmod_eq_emod_of_nonneg (by omega)]
 ·have ha:vd c=c:=by simp[vd,hc]
  rw[ha];go_enter func14,ntmps14
  go_wp2_with fail
  go_ret
  exact⟨bV rfl,rfl⟩
end
theorem Je (c n:Int)(h1: -9223372036854775808≤c)(h2:c≤9223372036854775807)(hn:0 < n):ae prog 14 [.v (.int .i64 c),.v (.int .i64 n)] (.v (.int .i64 (vd c % n))):=eA (ce func14 (by kernel_rfl) rfl) (by intro d hd;simp at hd;(repeat(first|(obtain rfl:=hd;rfl)|(rcases hd with rfl|hd; · rfl)))) rfl rfl (fun w=>(CI c n w h1 h2 hn).mono fun _ _ h=>⟨h.1,h.2 ▸ Below.refl _ _⟩)
theorem wK {l:List Cmd}(h:l.length≤200):rq l=(dM .zero l,jH .zero l,0):=by unfold rq;rw[if_neg (by omega)]
theorem CJ (l:List Cmd)(cut:Int)(c1: -9223372036854775808≤cut)(c2:cut≤9223372036854775807):ae prog 4 [.sl 10 (l.map fl),.v (.int .i64 cut)] (.v (.bool true)):=by
 have Tq:=AR;by_cases h:60 < l.length
 ·have e1:decide ((l.length:Int)>60)=true:=by simp;omega
  clear h c1 c2;refine pj func4 ntmps4 results4 ?_;exact bx
 have e1:decide ((l.length:Int)>60)=false:=by simp;omega
 have hle:l.length≤60:=by omega
 have Tr:=ua l;have Gd:=qz l;have hr:=m9 (nF (bZ l));rw[D8 _ (by omega) Tr]at hr;dsimp only at hr;have hp:=CA (bZ l);rw[wK (by omega)]at hp;dsimp only at hp;have lO:=rt _ (jI (bZ l));have hz:=pz (bZ l);have Gp:=Je cut ((42*(bZ l).length+1:Nat):Int) c1 c2 (by omega);obtain⟨k,hk,kD⟩:∃k:Nat,vd cut % ((42*(bZ l).length+1:Nat):Int)=(k:Int)∧k≤42*(bZ l).length:=by
  have p1:=Int.emod_nonneg (vd cut) (show ((42*(bZ l).length+1:Nat):Int)≠0 by omega);have p2:=Int.emod_lt_of_pos (vd cut) (show (0:Int) < ((42*(bZ l).length+1:Nat):Int) by omega);exact⟨(vd cut % ((42*(bZ l).length+1:Nat):Int)).toNat,by omega,by omega⟩
 rw[hk]at Gp;have Bd:=m9 ((nF (bZ l)).extract 0 k);rw[LO _ (by omega) Tr k kD]at Bd;dsimp only at Bd;have Ts:=CA ((bZ l).take (k / 42));rw[wK (by rw[V2];omega),XS]at Ts;dsimp only at Ts;have VB:=rt _ (jI ((bZ l).take (k / 42)));have Uh:=wi (42*(bZ l).length) (by omega);have q1:(k:Int).tdiv 42=((k / 42:Nat):Int):=by rw[Int.tdiv_eq_ediv_of_nonneg (by omega)];omega
 have q2:decide (((k / 42:Nat):Int)>((bZ l).length:Int))=false:=by simp;omega
 have q3:k / 42≤(bZ l).length:=by omega
 have q5:IntKind.i64.wrap ((k / 42:Nat):Int)=((k / 42:Nat):Int):=by rw[IntKind.wrap_i64];omega
 have q4:k≤(nF (bZ l)).size:=by omega
 clear c1 c2 hk h Tr;refine pj func4 ntmps4 results4 ?_;refine aF ?_;refine bP ah av l (fun _=>True)
  (fun k=>[(7,.d (.v (.int .i64 k))),(6,if k=l.length then .d (.sl 10 ((bZ (l.take k)).map fl))else .own 0 (bZ (l.take k)).length),(5,.d (.v (.string (nF (bZ (l.take k)))))),(1,.d (.v (.int .i64 cut))),(0,.d (.sl 10 (l.map fl)))])
  (fun k=>[if k=l.length then .gone else .row 27 10 (bZ (l.take k)).length (aa ((bZ (l.take k)).map fl))]) trivial ?_ ?_ ?_
 ·have e0:bZ (l.take 0)=[]:=rfl;have e2:nF []=⟨#[]⟩:=rfl;rw[e0,e2];refine(dO (by simp) 6 27 10 rfl).trans ?_;by_cases h0:0=l.length
  ·rw[if_pos h0,if_pos h0];refine(ax 0 0 27 10 [] rfl).trans ?_;simp only[iJ,fz,f8,fI,g9,fL,aT,bO,bY,V1,V5,Ws,Wu,reduceIte,and_true,true_and,and_self,and_false,false_and,Wn,Wz,reduceCtorEq];exact wf
  ·rw[if_neg h0,if_neg h0];exact wf
 ·intro k x hx hk _ C hC;clear hr hp lO Gp Bd Ts VB Tq q1 q2 q3 q4 q5 hz Uh kD;have g8:(k:Int) < (l.length:Int):=by omega
  have ed:=wi k (by omega);have jv:=D3 (nF (bZ (l.take k))) x;have rD:=qz (l.take k);rw[V2]at rD;have mO:(bZ (l.take k)).length+1≤100:=by omega
  rw[AL _ (by omega) (ua _) x]at jv;have hn:bZ (l.take (k+1))=if pN x=true then ji (bZ (l.take k)) x else bZ (l.take k):=by rw[aj hx,t9]
  have bq:¬k=l.length:=by omega
  rw[if_neg bq,if_neg bq];unfold ji at hn jv;generalize bZ (l.take k)=K0 at*;generalize (wD (dM .zero K0) x).2.1=R at*;clear rD Gd;cases ho:pN x with
  |false=>
   rw[ho,if_neg (by simp)]at jv hn;dsimp only at jv;replace hn:=VZ hn;clear ho;refine aF ?_;refine hC _ _ trivial ?_;rw[hn.out];by_cases hl:k+1=l.length
   ·rw[if_pos hl,if_pos hl];refine(ax 0 K0.length 27 10 (K0.map fl) rfl).trans ?_;simp only[iJ,fz,f8,fI,g9,fL,aT,bO,bY,V1,V5,Ws,Wu,reduceIte,and_true,true_and,and_self,and_false,false_and,Wn,Wz,reduceCtorEq];exact wf
   ·rw[if_neg hl,if_neg hl];exact wf
  |true=>
   rw[ho,if_pos rfl]at jv hn;by_cases he:R.err=0
   ·rw[if_pos he]at jv hn;dsimp only at jv;have hm:K0.map fl++[fl x]=(K0++[x]).map fl:=by rw[V6,V1,V5]
    have ik:K0.length+1=(K0++[x]).length:=by simp
    replace hn:=VZ hn;replace hm:=VZ hm;replace ik:=VZ ik;clear ho;refine aF ?_;refine hC _ _ trivial ?_;rw[hn.out];by_cases hl:k+1=l.length
    ·rw[if_pos hl,if_pos hl];refine(ax 0 (K0.length+1) 27 10 ((K0++[x]).map fl) (by rw[←hm.out];rfl)).trans ?_;simp only[iJ,fz,f8,fI,g9,fL,aT,bO,bY,V1,V5,Ws,Wu,reduceIte,and_true,true_and,and_self,and_false,false_and,Wn,Wz,reduceCtorEq];exact wf
    ·rw[if_neg hl,if_neg hl,←ik.out,←hm.out];exact wf
   ·rw[if_neg he]at jv hn;have TW:(R.err==0)=false:=by simpa using he
    dsimp only at jv;replace hn:=VZ hn;replace he:=VZ he;clear ho;refine aF ?_;refine hC _ _ trivial ?_;rw[hn.out];by_cases hl:k+1=l.length
    ·rw[if_pos hl,if_pos hl];refine(ax 0 K0.length 27 10 (K0.map fl) rfl).trans ?_;simp only[iJ,fz,f8,fI,g9,fL,aT,bO,bY,V1,V5,Ws,Wu,reduceIte,and_true,true_and,and_self,and_false,false_and,Wn,Wz,reduceCtorEq];exact wf
    ·rw[if_neg hl,if_neg hl];exact wf
 ·intro _ C;rw[if_pos rfl,if_pos rfl,V4];exact bx
section
open Go.Proofs Go.ChangeShapes Go.WideShapes Go.Deep
def NM:Nat→Prop:=fun _=>False
section
variable {H:Type}{enc:TypeId × Value→H}{P:Program}{w:World}{base:Nat}{spare:Nat→Bool}{held:Bool}
def Pn {α:Type}(enc:TypeId × Value→H)(P:Program)(w:World)(base:Nat)(spare:Nat→Bool)(held:Bool)(t:TypeId)(R:List Value→α→Prop)(S:α→Prop):Prop:=
 ∀fuel cs x,DataW.trod enc P w base spare held fuel t cs=some x→∃a,R cs a∧((∀n∈x.1.weights P t,n≤reachBytes)→S a)
theorem Oy {α:Type}{t:TypeId}{R:List Value→α→Prop}(h:Rd enc P w base spare held t R):Pn enc P w base spare held t R (fun _=>True):=by
 intro fuel cs x hx;obtain⟨a,ha⟩:=h fuel cs x hx;exact⟨a,ha,fun _=>trivial⟩
theorem ry {e:TypeId}:∀{l:List (DataW H)}{d:DataW H},d∈l→∀n∈d.weights P e,n∈DataW.weightsAll P e l
 |a::l,d,h,n,hn=>by
  simp only[DataW.weightsAll,WJ];rcases WI.1 h with rfl|h
  ·exact .inl hn
  ·exact .inr (ry h n hn)
theorem F3 {α:Type}{t e:TypeId}{k:Nat}{R:List Value→α→Prop}{S:α→Prop}(ht:P.underlying t=some (.slice e))(hc:P.cellsOf e=k+1)(he:Pn enc P w base spare held e R S):
 Pn enc P w base spare held t (fun cs (l:List α)=>∃v,cs=[v]∧Py (inW w) w (k+1) R v l) (fun l=>l.length*P.bytesOf e≤reachBytes∧∀a∈l,S a):=by
 intro fuel cs x hx;rcases open_slice ht hx with⟨rfl,rfl⟩|⟨a,len,cap,m,n,D,Pl,rfl,hb,hl,hm,Da,rfl,hi⟩
 ·exact⟨[],⟨_,rfl,none,0,rfl,⟨Wa _,by decide,fun i h=>by simp at h⟩⟩,fun _=>⟨by simp,fun a h=>by simp at h⟩⟩
 ·have jO:len≤m:=by rw[Da];split<;>omega
  obtain⟨l,yj,hq⟩:=qw (Q:=fun i y=>∃cs',w.cells? base (a.add (i*P.cellsOf e)) (P.cellsOf e)=some cs'∧R cs' y∧((∀n∈(D i).weights P e,n≤reachBytes)→S y)) len fun i h=>by
   obtain⟨cs',h1,h2⟩:=hi i (by omega);obtain⟨y,hy,hs⟩:=he _ _ _ h2;exact⟨y,cs',h1,hy,hs⟩
  refine⟨l,⟨_,rfl,some a,cap,by rw[yj],⟨by omega,by unfold maxLen at hm;omega,fun i h=>?_⟩⟩,fun hw=>⟨?_,fun y hy=>?_⟩⟩
  ·obtain⟨cs',h1,h2,-⟩:=hq i h;rw[hc]at h1;obtain⟨_,gh,oE⟩:=World.cells?_some h1;obtain⟨b,off,spot⟩:=a;have Rr:spot=none:=by
    obtain⟨cs0,g1,_⟩:=hq 0 (by omega);rw[hc]at g1;obtain⟨_,gcl,gat⟩:=World.cells?_some g1;have g0:=gat (i:=0) (by omega);have g0':w.cell? ⟨b,off,spot⟩=some (cs0[0]'(by omega)):=by
     have:((⟨b,off,spot⟩:Addr).add (0*(k+1))).add 0=⟨b,off,spot⟩:=by simp[Addr.add]
     rw[this]at g0;rw[g0];exact VY (by omega)
    exact World.cell?_spot g0'
   subst Rr;have Jk:∀o j,((⟨b,o,none⟩:Addr).add j)=⟨b,o+j,none⟩:=by
    intro o j;unfold Addr.add;split<;>simp_all
   refine⟨b,off,cs',rfl,?_,gh,h2,fun j hj=>?_⟩
   ·have:=oE (i:=0) (by omega);rw[Jk,Jk]at this;exact cQ (this.trans (VY (by omega)))
   ·have:=oE (i:=j) (by omega);rw[Jk,Jk]at this;rw[this];exact VY hj
  ·have:=hw (((WC len).map D).length+((WC (m - len)).map fun j=>D (len+j)).length|>(·*P.bytesOf e)) (by simp[DataW.weights,ht]);simp only[Wg,List.length_range]at this;rw[yj];exact W6 (WX _ (by omega)) this
  ·obtain⟨i,VC,rfl⟩:=W9.1 hy;obtain⟨cs',h1,h2,h3⟩:=hq i VC;refine h3 fun n hn=>hw n ?_;simp only[DataW.weights,ht];refine XG _ (YH _ (ry (d:=D i) (Wp.2 ⟨i,by simp;omega,rfl⟩) n hn))
end
end
section
open Go.Proofs Go.ChangeShapes Go.WideShapes Go.Deep
theorem Jf {α:Type}{enc:α→List D}{sz:Nat}{w:World}(h0:0 < sz)(Ut:∀a,(enc a).length=sz∧∀d∈enc a,d.one=true){v:Value}{l:List α}(h:Py (inW w) w sz (fun cs a=>cS NM w (enc a) cs) v l):RepD NM w (.sl sz (l.map enc)) v:=by
 obtain⟨ao,cap,rfl,hs⟩:=h;cases l with
 |nil=>exact .nil sz ao cap hs.cap_max
 |cons u us=>
  obtain⟨b,off,cs,rfl,Sr,hl,hR,mK⟩:=hs.elem 0 (by simp);have key:∀i (hi:i < (u::us).length),∃cs:List Value,cs.length=sz∧cS NM w (enc (u::us)[i]) cs∧jx w b (off+i*sz) cs:=by
   intro i hi;obtain⟨b',off',cs',e,-,hl',hR',CX⟩:=hs.elem i hi;cases e;exact⟨cs',hl',hR',CX⟩
  have bc:((u::us).map enc).length=(u::us).length:=by simp
  rw[←bc];refine .sl sz ((u::us).map enc) b off cap (fun i j=>(w.cell? ⟨b,off+i*sz+j,none⟩).getD undef) (fun h=>h) Sr (by rw[bc];exact hs.cap_le) hs.cap_max (fun r hr=>?_) (fun r hr=>?_) (fun i j hi hj=>?_) (fun i j row d hi hj=>?_)
  ·obtain⟨x,-,rfl⟩:=Wp.1 hr;exact(Ut x).1
  ·obtain⟨x,-,rfl⟩:=Wp.1 hr;exact(Ut x).2
  ·obtain⟨cs',hl',-,CX⟩:=key i (by simpa using hi);rw[CX j (by omega)];rfl
  ·have hi':i < (u::us).length:=by have:=(V3.1 hi).1;simpa using this
   obtain⟨cs',hl',hR',CX⟩:=key i hi';rw[V7,VY hi']at hi;simp only[WQ,WD.injEq]at hi;subst hi;have hj':j < cs'.length:=by rw[←hR'.1];exact(V3.1 hj).1
   rw[CX j hj'];exact hR'.2 j d _ hj (VY hj')
section
variable {H:Type}{enc:TypeId × Value→H}{w:World}{base:Nat}{spare:Nat→Bool}{held:Bool}
theorem pE:prog.cellsOf 23=2:=by kernel_rfl
theorem jT:prog.cellsOf 3=1:=by kernel_rfl
theorem Oz:Rd enc prog w base spare held 23 Pfx.R:=by
 intro fuel cs x hx;have hl:=Cm underlying23 hx;rw[pE]at hl;obtain⟨a,ha⟩:=ec underlying23 hx 0 rfl (jR underlying3);obtain⟨b,hb⟩:=ec underlying23 hx 1 rfl (jR underlying3);match cs,hl with
 |[c0,c1],_=>
  simp[jT,Lh]at ha hb;exact⟨⟨a,b⟩,by simp[Pfx.R,ha.1,hb.1]⟩
theorem CK (l:List Int):cS NM w (l.map fun n=> .v (.int .i64 n)) (l.map fun n=> .int .i64 n):=by
 refine⟨by simp,fun j d x hj hx=>?_⟩;rw[V7,Wh]at hj hx;obtain⟨a,ha,rfl⟩:=hj;obtain⟨c,hc,rfl⟩:=hx;rw[ha]at hc;obtain rfl:=WD.inj hc;exact .v _
end
theorem L6 {M:Nat→Prop}{w:World}:cS M w [] []:=⟨rfl,fun j d x hj _=>by simp at hj⟩
theorem Ed {M:Nat→Prop}{w:World}{d:D}{v:Value}{ds:List D}{vs:List Value}(h:RepD M w d v)(g:cS M w ds vs):cS M w (d::ds) (v::vs):=⟨by simp[g.1],fun j e x hj hx=>by
 cases j with
 |zero=>simp at hj hx;subst hj;subst hx;exact h
 |succ j=>exact g.2 j e x (by simpa using hj) (by simpa using hx)⟩
theorem OA {P:Program}{f:Nat}{args:List D}{vs:List Value}{W:World}(hp:ae P f args (.v (.bool true)))(cZ:cS NM W args vs)(hg:uG NM W:=by intro x hx;exact absurd hx (by simp[J5])):Calls P f vs.toArray W fun e w'=>e= .returned (.bool true)∧cW W w':=by
 refine(hp.2 NM W vs (fun b h=>h.elim) hg cZ).mono ?_;rintro e w' ⟨v,rfl,hv,hx⟩;cases hv;exact⟨rfl,hx⟩
section
variable {H:Type}{enc:TypeId × Value→H}{w:World}{base:Nat}{spare:Nat→Bool}{held:Bool}
end
end
section
open Go.Proofs Go.ChangeShapes Go.WideShapes Go.Deep
section
variable {H:Type}{enc:TypeId × Value→H}{w:World}{base:Nat}{spare:Nat→Bool}{held:Bool}
theorem pD:prog.cellsOf 25=4:=by kernel_rfl
theorem OB:Rd enc prog w base spare held 25 fun cs (r:Rul)=>cs=[.int .i64 r.min,.int .i64 r.max,.int .i64 r.usual,.int .i64 r.cool]:=by
 intro fuel cs x hx;have hl:=Cm underlying25 hx;rw[pD]at hl;obtain⟨a,ha⟩:=ec underlying25 hx 0 rfl (jR underlying3);obtain⟨b,hb⟩:=ec underlying25 hx 1 rfl (jR underlying3);obtain⟨c,hc⟩:=ec underlying25 hx 2 rfl (jR underlying3);obtain⟨d,hd⟩:=ec underlying25 hx 3 rfl (jR underlying3);match cs,hl with
 |[c0,c1,c2,c3],_=>
  simp[jT,Lh]at ha hb hc hd;exact⟨⟨a,b,c,d⟩,by simp[ha.1,hb.1,hc.1,hd.1]⟩
theorem Ma {P:Program}{α:Type}{Q:Value→α→Prop}{S:α→Prop}{r:Reach}{b0:Nat}{t e:TypeId}{v:Value}{d:DataW H}{p:List MemPlace}(ht:P.underlying t=some (.slice e))(De:Value.okWide P w r b0 t v)(hd:DataW.Trod enc P w base spare held t v d p)
 (hr:Pn enc P w base spare held t (fun cs a=>∃u,cs=[u]∧Q u a) S):∃a,Q v a∧((∀n∈d.weights P t,n≤reachBytes)→S a):=by
 obtain⟨a,len,cap,rfl⟩:=okWide_slice ht De;obtain⟨fuel,hf⟩:=hd;obtain⟨l,⟨u,hu,hq⟩,hs⟩:=hr _ _ _ hf;simp[Value.cells]at hu;subst hu;exact⟨l,hq,hs⟩
theorem pC:prog.cellsOf 27=10:=by kernel_rfl
theorem OC:Rd enc prog w base spare held 27 fun cs (c:Cmd)=>cS NM w (fl c) cs:=by
 intro fuel cs x hx;have hl:=Cm underlying27 hx;rw[pC]at hl;obtain⟨o,ho⟩:=ec underlying27 hx 0 rfl (jR underlying3);obtain⟨a,ha⟩:=ec underlying27 hx 1 rfl (jR underlying3);obtain⟨b,hb⟩:=ec underlying27 hx 2 rfl (jR underlying3);obtain⟨c,hc⟩:=ec underlying27 hx 3 rfl (jR underlying3);obtain⟨p,hp⟩:=ec underlying27 hx 4 rfl Oz;obtain⟨r,hr⟩:=ec underlying27 hx 5 rfl OB;match cs,hl with
 |[c0,c1,c2,c3,c4,c5,c6,c7,c8,c9],_=>
  simp[pE,jT,pD,Lh,Pfx.R]at ho ha hb hc hp hr;refine⟨⟨o,a,b,c,p,r⟩,?_⟩;rw[ho.1,ha.1,hb.1,hc.1,hp.1,hp.2,hr.1,hr.2.1,hr.2.2.1,hr.2.2.2];exact CK [o,a,b,c,p.at_,p.len,r.min,r.max,r.usual,r.cool]
theorem Mb:Pn enc prog w base spare held 27 (fun cs (c:Cmd)=>cS NM w (fl c) cs) (fun _=>True):=Oy OC
theorem Jg:Pn enc prog w base spare held 40 (fun cs (l:List Cmd)=>∃v,cs=[v]∧RepD NM w (.sl 10 (l.map fl)) v) (fun _=>True):=by
 have h:=F3 (enc:=enc) (base:=base) (spare:=spare) (held:=held) underlying40 pC (Mb (w:=w));intro fuel cs x hx;obtain⟨l,⟨v,rfl,hs⟩,hw⟩:=h fuel cs x hx;refine⟨l,⟨v,rfl,Jf (sz:=10) (by omega) (fun a=>⟨rfl,fun d hd=>?_⟩) hs⟩,fun _=>trivial⟩;simp[fl]at hd;rcases hd with rfl|rfl|rfl|rfl|rfl|rfl|rfl|rfl|rfl|rfl<;>rfl
end
end
section
open Go.Proofs
def Jh:List (String × DataW Unit):=[("math/bits.deBruijn32tab",Rows.laid_math_bits_deBruijn32tab),("math/bits.deBruijn64tab",Rows.laid_math_bits_deBruijn64tab),("internal/strconv.uint64pow10",Rows.laid_internal_strconv_uint64pow10)]
theorem Ji {P:Program}{w:World}{n:String}{g:Nat}{vs:Array Value}(hg:P.globalNamed n=some g)(h:w.var? P n=some vs):∃E sp,w.heap[g]? =some (.cells vs E sp):=by
 unfold World.var? at h;rw[hg]at h;simp only[Xn]at h;split at h
 ·rename_i cs E sp hh;cases h;exact⟨E,sp,hh⟩
 ·cases h
theorem MP:prog.globalNamed "internal/strconv.uint64pow10"=some GQ:=by kernel_rfl
theorem P9:(prog.globals[GQ]?).map (·.type)=some 359:=by kernel_rfl
theorem F4 {W:World}(hH:laidMetH prog Jh W):uG NM W:=by
 have h:laidMet prog Jh W:=MakeChecks.laidMetH_plain prog Jh W (by kernel_rfl) ▸ hH;have hP:=Lib.tabIs_of_head (k:= .u64) (zs:=Lib.pow10Tab) (rest:=[]) MP P9 underlying359 underlying317 (by kernel_rfl) (by kernel_rfl) h.tail.tail;intro x hx;refine⟨fun e=>e.elim,?_⟩;unfold J5 at hx;simp only[WI,List.not_mem_nil,or_false]at hx;subst hx;obtain⟨E,sp,hh⟩:=Ji MP hP;exact⟨_,E,sp,hh,rfl⟩
end
section
open Go.Proofs Go.ChangeShapes Go.WideShapes Go.ChangeAt
theorem xU:ownKnob prog.godebug=Option.none:=by kernel_rfl
theorem kC:laidOutB prog=true:=by kernel_rfl
theorem xV (os:Os)(args:Array Value):laidMetH prog Rows.deskKeptRow.laid ((World.doorLaid prog 65 os).forCall (fun _ _=>0) ⟨#[],args,[]⟩).memory:=
 laidMetH_of_parts3 (fuel:=8) (laidMet_of_run' 8 (by kernel_rfl) (by kernel_rfl)) (by kernel_rfl) (by kernel_rfl)
theorem rR (os:Os)(started:os.Started)(H:Type)(enc:TypeId × Value→H):
 ReturnsInHanded {} Tryz.checked os 4 .any (fun w args=>(Rows.deskKeptSpec.pre enc prog Tryz.f4 Rows.deskKeptRow.domain false w args∧laidMetH prog Rows.deskKeptRow.laid w)∧sizedMet enc prog Tryz.f4 (OpenSpec.ofChange Rows.deskKeptSpec) false w args)
  (Rows.deskKeptSpec.post enc prog Tryz.f4 false true false false):=by
 refine returnsInHanded_of_change_and (C:=Tryz.checked) (X:=fun w _=>laidMetH prog Rows.deskKeptRow.laid w) (fun _ _ _ hh h=>h.of_heap hh) xU started (by kernel_rfl) func4
  (ChangeSpec.witness_shaped (enc:=enc) (C:=Tryz.checked) (os:=os) (X:=fun w _=>laidMetH prog Rows.deskKeptRow.laid w) false (World.doorLaid prog 65 os) #[.slice none 0 0,.int .i64 0] 8 rfl (World.shaped_of_RefB (by kernel_rfl) (by kernel_rfl)) (by kernel_rfl) (by kernel_rfl) (by kernel_rfl) (xV os _)) ?_
 intro W base args ds gs before Nm hW hcnd ck hL _;have De:∀(j:Nat) t v,Tryz.f4.params[j]? =some t→args[j]? =some v→Value.okWide prog W .any base t v:=Nm;have hW':=hW;obtain⟨p,q,Gv,hV,rfl,O9,jX⟩:=hW;have hA:DataW.TrodAll enc prog W 0 (fun _=>true) true Tryz.f4.params.toList args.toList ds p:=Gv;rw[params4]at hA De ck;obtain⟨v0,vs0,d0,ds0,p0,q0,wQ,rfl,rfl,h0,r0⟩:=trodAll_cons hA;obtain⟨v1,vs1,d1,ds1,p1,q1,rfl,rfl,rfl,h1,r1⟩:=trodAll_cons r0;obtain⟨rfl,rfl,rfl⟩:=trodAll_nil r1;obtain rfl:args=#[v0,v1]:=by cases args;simp_all
 obtain⟨rfl,rfl⟩:=trodVars_none hV;obtain⟨a0,w0,s0⟩:=Ma underlying40 (De 0 40 v0 rfl rfl) h0 Jg;obtain⟨a1,rfl,w1⟩:=Li underlying3 (De 1 3 v1 rfl rfl) h1;clear Gv Nm;refine(OA (CJ a0 a1 w1.1 w1.2) (vs:=[v0,.int .i64 a1]) (Ed w0 (Ed (.v (.int .i64 a1)) L6)) (F4 hL)).mono fun e W' ⟨he,bel⟩=>?_;subst he;exact⟨_,rfl,_,_,_,[],_,[],hW',trodAll_mk1 (shut_bool underlying4 _),(trodAll_cons_mk (Below.trod kC (by kernel_rfl) (of_decide_eq_true (by kernel_rfl)) h0 bel (Ai h0)) (trodAll_cons_mk (Below.trod kC (by kernel_rfl) (of_decide_eq_true (by kernel_rfl)) h1 bel (Ai h1)) trodAll_mk0)),rfl,bel.frame _,fun h=>by cases h⟩
set_option maxHeartbeats 0 in
theorem rS:joinedFacts prog 4 Tryz.f4 Rows.deskKeptSpec Rows.deskKeptRow=true:=by
 unfold joinedFacts;repeat' (with_reducible refine Bool.and_eq_true_iff.2 ⟨?_,?_⟩)
 all_goals as_aux_lemma=>kernel_rfl
theorem uj:Tryz.pinned.checked.prog.funcNamed Rows.deskKeptRow.func=some 4:=by kernel_rfl
theorem ve:Tryz.f4.isInstance Tryz.pinned.checked.prog Rows.deskKeptRow.origin Rows.deskKeptRow.targs:=of_decide_eq_true (by kernel_rfl)
theorem vf:Tryz.f4.isWrapper Tryz.pinned.checked.prog Rows.deskKeptRow.wrapper Rows.deskKeptRow.mainSum:=by unfold Func.isWrapper;first|(rw[if_pos (by decide+kernel)];kernel_rfl)|(rw[if_neg (by decide+kernel)];exact⟨rfl,rfl⟩)
theorem vg:Rows.deskKeptRow.holds Tryz.pinned (OpenSpec.ofChange Rows.deskKeptSpec):=
 OpenClaim.holds_of_wide 4 Tryz.f4 rfl rfl rfl rfl rfl rfl rfl ⟨rfl,rfl,rfl,rfl,rfl⟩ rfl rfl rfl rfl rfl uj func4 rS ve vf
  (fun os started H enc _=>rR os started H enc)
theorem deskKept_holds:Rows.DeskKeptSaid:=vg
theorem uk (f:FuncId)(fn:Func)(hf:Tryz.pinned.checked.prog.funcNamed "parcelway/parcelwaylaw.DeskKept"=some f)(Mt:Tryz.pinned.checked.prog.funcs[f]? =some fn):
 false=Tryz.pinned.checked.prog.looks []∧∀(j:Nat) t,fn.params[j]? =some t→Tryz.pinned.checked.prog.wantsStandIn t=false:=by
 obtain rfl:f=4:=WD.inj ((show prog.funcNamed "parcelway/parcelwaylaw.DeskKept"=some 4 by kernel_rfl).symm.trans hf)|>.symm;obtain rfl:fn=Tryz.f4:=(WD.inj (func4.symm.trans Mt)).symm;refine⟨by kernel_rfl,fun j t ht=>?_⟩;rw[params4]at ht;have hm:t∈[40,3]:=by simpa using Yn ht
 have b7:([40,3].all fun u=>!prog.wantsStandIn u)=true:=by kernel_rfl
 exact(show prog.wantsStandIn t=false by simpa using Wx.1 b7 t hm)
theorem AS:Rows.deskKeptRow.wfByText (OpenSpec.ofChange Rows.deskKeptSpec)=true:=by kernel_rfl
theorem AT:Tryz.pinned.checked.prog.mainIs=some (Rows.deskKeptCard.stood.harness.1,Rows.deskKeptCard.stood.harness.2.toList):=by kernel_rfl
theorem AU:false=Rows.deskKeptRow.goesBy Tryz.pinned.checked.prog:=by kernel_rfl
theorem vh:Rows.DeskKeptCardSaid:=
 Claim7.holds_tied_plain_at .later [] _ _ _ _ deskKept_holds (fun _ h=>by cases h) AS (fun _ h=>by cases h) deskKept_row_tie rfl ⟨rfl,rfl⟩ AT rfl uk AU
#print axioms vh
end
end Go.Proofs.YtojojebildofnaaGreatDoor
