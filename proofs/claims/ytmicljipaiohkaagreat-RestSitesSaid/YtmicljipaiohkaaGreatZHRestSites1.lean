/- Texts of this work, joined. -/
import Derived.Test.YtmicljipaiohkaaGreatZHRestSites0
import Derived.WalkKit
import Derived.WalkSmall
import Derived.WideKeyRuns
import Derived.Carry
import Derived.Laws.MakeOwn
import Derived.Maps.RangeRun
import Derived.Laws.IdiomRangeMap
import Derived.WalkMore
import Derived.Laws.BytesArg
set_option linter.unusedSimpArgs false
set_option linter.unusedVariables false
set_option maxRecDepth 100000
set_option maxHeartbeats 16000000
namespace Go.Proofs.YtmicljipaiohkaaGreat
open Go Go.RowKit Go.Proofs.Tryz
open _root_.List renaming getElem?_eq_getElem → Xj, mem_of_getElem? → Xk, map_cons → Xl, getElem?_eq_some_iff → Xm, length_take → Xo, map_nil → Xp, take_length → Xq, getElem?_map → Xr, length_map → Xs, length_cons → XC, all_eq_true → XD, mem_map → XF, getElem?_append_right → XI, getD_eq_getElem?_getD → XJ, take_of_length_le → XM, getElem?_eq_none → XN, length_drop → XO, getElem?_take_of_lt → XP, replicate → XS, set_cons_zero → XT, length_append → XV, getElem?_append_left → XW, length_nil → XX, mem_cons → XY, mem_append → X0, set_cons_succ → X2, append_assoc → X3, range → X4, cons_append → X5, getElem_of_mem → X7, nil_append → X8, eq_nil_of_length_eq_zero → X9, mem_singleton → Yc, mem_of_mem_drop → Yd, mem_of_mem_take → Yf, ext_getElem? → Yg, getElem?_drop → Yk, getElem_mem → Yl, take_append_of_le_length → Ym, append_nil → Yv, getElem?_cons_succ → Yw, size_toArray → YF, foldl_cons → YK, drop_eq_getElem_cons → YN, mem_range → YO, mem_cons_of_mem → YP, flatten_cons → YR, length_set → YS, filter_append → YT, filter_eq_self → YY, toList_toArray → YZ, map_congr_left → Y0, mem_or_eq_of_mem_set → Y4, mem_map_of_mem → Y7, length_filter_le → Y8, length_pos_iff → Zb, getElem?_toArray → Zc, filter_filter → Zh, getElem?_take → Zi, foldl_append → Zo, filter_eq_nil_iff → Zp, mem_filter → Zv, filter_cons → Zw, eq_of_mem_replicate → Zy, take_succ_cons → ZF, mem_flatten → ZL, mem_append_left → ZS, map_set → ZU, getElem?_range → ZZ, map_flatten → Z1, getElem?_replicate → Z2, map_map → Z4, filter_congr → Z9, take_zero → p', flatten_append → J', mem_cons_self → P', drop_of_length_le → Y', mem_toArray → _m, drop_append → _n
open _root_.Bool renaming and_eq_true → Xv, eq_iff_iff → Yi, true_and → Yp, and_self → Yq, and_true → Yx, false_eq_true → Yz, or_eq_false_iff → Zl, not_eq_true' → Zq
open _root_.Nat renaming zero_add → Xw, le_refl → XA, zero_le → XE, add_zero → XG, lt_or_ge → XL, lt_of_lt_of_le → Ya, le_trans → Yj, mul_le_mul_right → Yt, sub_self → YE, succ_mul → YX, mul_comm → Zr, sub_zero → Zs, eq_zero_or_pos → Zx, div_lt_of_lt_mul → ZA, add_assoc → ZI, div_add_mod → ZQ, add_mul → ZT, not_lt → ZX, mul_one → _g, mod_lt → _h
open _root_.Option renaming map_eq_some_iff → XB, some → XU, map_some → Yb, getD_some → YD, bind_some → Y5, map_none → Zf
open _root_.Array renaming getElem?_toList → X6, getElem?_eq_some_iff → Yo, getD_eq_getD_getElem? → Ys, getElem?_eq_none → YJ, getElem?_eq_getElem → YM, getElem?_modify → YU, replicate → Y1, mem_of_getElem? → Z8, toList_map → F', getElem?_setIfInBounds_ne → _d, toArray_toList → _f, range → _k, ext' → _q
open Go.World renaming cell? → YL, cell?_of_block → Zk, setRow → ZH, setCell → L', alloc_eq → X'
open _root_.Int renaming le_refl → ZJ, toNat_of_nonneg → Z0
open _root_.Function renaming comp → _l
theorem a4v {p:Prop}(h:p:=by
 rcases XL b w.heap.size with h'|h'
 ·exact h'
 ·simp[YJ h']at h):p:=h
theorem aa {p : Prop} (h : p := by omega) : p := h
theorem ak {p : Prop} (h : p := by simp) : p := h
theorem aK {p : Prop} (h : p := by kernel_rfl) : p := h
theorem gR {p : Prop} (h : p := by assumption) : p := h
theorem cY {p : Prop} (h : p := by with_reducible rfl) : p := h
theorem mR {p : Prop} (h : p := by first | exact .inl rfl | exact .inr rfl) : p := h
theorem L8 {p : Prop} (h : p := by first | assumption | fail) : p := h
theorem aN {p : Prop} (h : p := by simp; omega) : p := h
theorem zr {p : Prop} (h : p := by decide) : p := h
theorem ld {p : Prop} (h : p := by grind) : p := h
theorem Qf {p : Prop} (h : p := by unfold maxLen; omega) : p := h
theorem Ju {p : Prop} (h : p := by go_simp; rfl) : p := h
theorem af {c : Prop} {h : Decidable c} (k : ¬c) {α : Sort _} {t e : α} : (ite c t e) = e := if_neg k
theorem ah {c : Prop} {h : Decidable c} (k : c) {α : Sort _} {t e : α} : (ite c t e) = t := if_pos k
abbrev dy (w w':World):Prop:=Below w.heap.size w w'
structure Bel (B:Nat)(a w:World):Prop where
 bel:Below B a w
 le:B<=w.heap.size
theorem Bel.refl (w:World):Bel w.heap.size w w:=⟨Below.refl _ _,XA _⟩
theorem Bel.alloc {B:Nat}{a w:World}(h:Bel B a w)(o:Obj):Bel B a (w.alloc o):=⟨h.bel.alloc h.le o,by have:=h.le;simp;omega⟩
theorem Bel.setCell {B:Nat}{a w:World}(h:Bel B a w){p:Addr}(hp:B<=p.block)(u:Value):Bel B a (w.setCell p u):=
 ⟨h.bel.setCell hp u,by have:=h.le;simpa[L']using this⟩
theorem Bel.setCell0 {B:Nat}{a w:World}(h:Bel B a w){b o:Nat}(hp:B<=b)(u:Value):Bel B a (w.setCell ⟨b,o,none⟩ u):=h.setCell (p:=⟨b,o,none⟩) hp u
theorem Bel.drewN {B:Nat}{a w:World}(h:Bel B a w)(n:Nat):Bel B a (w.drewN n):=⟨below_drewN h.bel n,h.le⟩
theorem Bel.drew {B:Nat}{a w:World}(h:Bel B a w):Bel B a w.drew:=⟨h.bel.drew,h.le⟩
theorem Bel.call {B:Nat}{a w w':World}(h:Bel B a w)(k:dy w w'):Bel B a w':=⟨h.bel.trans (k.mono h.le),Yj h.le k.size⟩
theorem Bel.ext {a w:World}(h:Bel a.heap.size a w):dy a w:=h.bel
theorem Bel.cell {B:Nat}{a w:World}(h:Bel B a w){b off:Nat}{v:Value}(hb:b < B)(hc:a.cell? ⟨b,off,none⟩=some v):w.cell? ⟨b,off,none⟩=some v:=
 (h.bel.cell (p:=⟨b,off,none⟩) hb).trans hc
theorem aX {W w1:World}(hb:dy W w1):(∀b o,b < W.heap.size->w1.cell? ⟨b,o,none⟩=W.cell? ⟨b,o,none⟩)/\(∀b o,b < W.heap.size->w1.frozen? ⟨b,o,none⟩=W.frozen? ⟨b,o,none⟩):=
 ⟨fun b o h=>hb.cell (p:=⟨b,o,none⟩) h,fun b o h=>hb.frozen (p:=⟨b,o,none⟩) h⟩
theorem bv {W w1:World}(hb:dy W w1):W.heap.size<=w1.heap.size:=hb.size
theorem ae (w:World)(a:Addr)(v:Value):(w.setCell a v).heap.size=w.heap.size:=by simp[L']
theorem bZ {X w1:World}(h:dy X w1){b o:Nat}{v:Value}(hc:X.cell? ⟨b,o,none⟩=some v):w1.cell? ⟨b,o,none⟩=some v:=
 (h.cell (p:=⟨b,o,none⟩) (World.block_lt_of_cell? X ⟨b,o,none⟩ hc)).trans hc
abbrev mZ:=Nat->Prop
def mD (w:World)(b off:Nat)(cs:List Value):Prop:=∀i (h:i < cs.length),w.cell? ⟨b,off+i,none⟩=some cs[i]
structure Sl {α:Type}(A:mZ)(w:World)(k:Nat)(R:List Value->α->Prop)(ao:Option Addr)(cap:Nat)(l:List α):Prop where
 cap_le:l.length<=cap
 cap_max:cap<=9223372036854775807
 elem:∀i (h:i < l.length),∃b off cs,ao=some ⟨b,off,none⟩/\A b/\cs.length=k/\R cs l[i]/\mD w b (off+i*k) cs
def V1 {α:Type}(A:mZ)(w:World)(k:Nat)(R:List Value->α->Prop)(v:Value)(l:List α):Prop:=
 ∃ao cap,v= .slice ao l.length cap/\Sl A w k R ao cap l
theorem dI {w:World}{b off:Nat}{v:Value}(h:w.cell? ⟨b,off,none⟩=some v):b < w.heap.size:=by
 rcases XL b w.heap.size with hb|hb
 ·exact hb
 ·simp[YL,YJ hb]at h
theorem zt {w:World}{b o:Nat}{cs:Array Value}{t:TypeId}{f:Nat × Nat}{v:Value}(h:w.heap[b]? =some (.cells cs t f))(hv:cs[o]? =some v):w.cell? ⟨b,o,none⟩=some v:=by
 simp[YL,h,hv]
theorem mS {w:World}{b o:Nat}{cs:Array Value}{t:TypeId}(h:w.heap[b]? =some (.cells cs t (0,0))):w.frozen? ⟨b,o,none⟩=false:=by
 simp[World.frozen?,h]
theorem ew {w:World}{o:Obj}{b:Nat}{x:Obj}(h:w.heap[b]? =some x):(w.alloc o).heap[b]? =some x:=by
 have hlt:b < w.heap.size:=a4v
 rw[Below.heap_alloc _ _ _ hlt,h]
theorem Aq (w:World)(o:Obj):(w.alloc o).heap[w.heap.size]? =some o:=by
 show (w.heap.push o)[w.heap.size]? =_;simp
theorem lJ {w:World}{n:Nat}(o:Obj)(h:w.heap.size=n):(w.alloc o).heap[n]? =some o:=by subst h;exact Aq w o
theorem zu {w:World}{b o:Nat}{c:Array Value}{t:TypeId}{f:Nat × Nat}(h:w.heap[b]? =some (.cells c t f))(v:Value):(w.setCell ⟨b,o,none⟩ v).heap[b]? =some (.cells (c.setIfInBounds o v) t f):=by
 simp[L',YU,h]
theorem m5 {w:World}{b:Nat}{a:Addr}(v:Value)(h:a.block≠b):(w.setCell a v).heap[b]? =w.heap[b]? :=Below.heap_setCell _ _ _ _ (fun e=>h e.symm)
theorem Ar {w w':World}(hx:dy w w'){b:Nat}{o:Obj}(hb:w.heap[b]? =some o):w'.heap[b]? =some o:=by
 have hlt:b < w.heap.size:=by
  rcases XL b w.heap.size with h|h
  ·exact h
  ·simp[YJ h]at hb
 rw[hx.block b hlt,hb]
theorem aB (w:World)(o:Obj):dy w (w.alloc o):=((Bel.refl w).alloc o).bel
theorem ap {a b c:World}(h:dy a b)(k:dy b c):dy a c:=Below.trans h (Below.mono k h.size)
theorem eA {p:Prop}(h:p:=by(repeat(first|with_reducible assumption|with_reducible exact Bel.refl _|with_reducible refine Bel.alloc ?_ _|with_reducible refine Bel.drewN ?_ _|with_reducible refine Bel.drew ?_|(with_reducible refine Bel.setCell0 ?_ ?_ _;rotate_left;(first|omega|(simp;done)|(simp;omega)))|(with_reducible refine Bel.setCell ?_ (p:=_) ?_ _;rotate_left;(first|(simp;done)|omega|(simp;omega)))|refine Bel.call ?_ gR|(refine EX.bel ?_ gR ?_;rotate_left;(first|omega|(simp;omega)))))):p:=h
inductive D where
 |v (x:Value)
 |sl (sz:Nat) (rows:List (List D))
 |ept (cells:List D)
 |agg (cells:List D)
 |tup (vs:List D)
 |clo (g:Nat) (caps:List D)
 |nei
 |fr (N:Nat) (x:D)
def D.one:D->Bool
 | .v x=>x.oneCell'
 | .agg _=>false
 | .tup _=>false
 | .fr _ x=>x.one
 |_=>true
class Flo where
 N:Nat
def F9 [Flo](w:World)(b:Nat):Prop:=Flo.N<=b->∃c E,w.heap[b]? =some (.cells c E (0,0))
theorem F9.same [Flo]{w w':World}{b:Nat}(h:F9 w b)(e:w'.heap[b]? =w.heap[b]?):F9 w' b:=fun hb=>by rw[e];exact h hb
inductive RepD [Flo]:(Nat->Prop)->World->D->Value->Prop
 |v {M:Nat->Prop}{w:World} (x:Value):RepD M w (.v x) x
 |nil {M:Nat->Prop}{w:World} (sz:Nat) (ao:Option Addr) (cap:Nat) (hm:cap<=9223372036854775807):RepD M w (.sl sz []) (.slice ao 0 cap)
 |sl {M:Nat->Prop}{w:World} (sz:Nat) (rows:List (List D)) (b off cap:Nat) (f:Nat->Nat->Value) (hM:¬M b) (hb:b < w.heap.size) (hc:rows.length<=cap) (hm:cap<=9223372036854775807)
  (hr:∀r∈rows,r.length=sz) (h1:∀r∈rows,∀d∈r,d.one=true)
  (cf:∀i j,i < rows.length->j < sz->w.cell? ⟨b,off+i*sz+j,none⟩=some (f i j))
  (aU:∀(i j:Nat) (row:List D) (d:D),rows[i]? =some row->row[j]? =some d->RepD M w d (f i j)) (hz:F9 w b):RepD M w (.sl sz rows) (.slice (some ⟨b,off,none⟩) rows.length cap)
 |ept {M:Nat->Prop}{w:World} (cells:List D) (b off:Nat) (f:Nat->Value) (hM:¬M b) (hb:b < w.heap.size) (h1:∀d∈cells,d.one=true)
  (cf:∀j,j < cells.length->w.cell? ⟨b,off+j,none⟩=some (f j))
  (aU:∀(j:Nat) (d:D),cells[j]? =some d->RepD M w d (f j)) (hz:F9 w b):RepD M w (.ept cells) (.pointer (some ⟨b,off,none⟩))
 |agg {M:Nat->Prop}{w:World} (cells:List D) (vs:List Value) (hl:cells.length=vs.length) (h1:∀d∈cells,d.one=true)
  (aU:∀(j:Nat) (d:D) (x:Value),cells[j]? =some d->vs[j]? =some x->RepD M w d x):RepD M w (.agg cells) (.agg vs.toArray)
 |tup {M:Nat->Prop}{w:World} (ds:List D) (vs:List Value) (hl:ds.length=vs.length)
  (aU:∀(j:Nat) (d:D) (x:Value),ds[j]? =some d->vs[j]? =some x->RepD M w d x):RepD M w (.tup ds) (.tuple vs.toArray)
 |clo {M:Nat->Prop}{w:World} (g:Nat) (caps:List D) (vs:List Value) (hl:caps.length=vs.length)
  (aU:∀(j:Nat) (d:D) (x:Value),caps[j]? =some d->vs[j]? =some x->RepD M w d x):RepD M w (.clo g caps) (.func (.func g) #[] vs.toArray)
 |nei {M:Nat->Prop}{w:World} (t:TypeId) (x:Value):RepD M w .nei (.iface t x)
 |fr {M:Nat->Prop}{w:World} (N:Nat) (x:D) (v:Value) (h:RepD (fun b=>M b\/b < N) w x v):RepD M w (.fr N x) v
structure Keep (M:Nat->Prop)(w:World)(M':Nat->Prop)(w':World):Prop where
 size:w.heap.size<=w'.heap.size
 block:∀b,b < w.heap.size->¬M b->w'.heap[b]? =w.heap[b]?
 mu:∀b,b < w.heap.size->M' b->M b
theorem Keep.refl (M:Nat->Prop)(w:World):Keep M w M w:=⟨XA _,fun _ _ _=>rfl,fun _ _ h=>h⟩
theorem Keep.ext {M:Nat->Prop}{w w':World}(h:dy w w')(hM:∀b,M b->b < w.heap.size):Keep M w M w':=⟨h.size,fun b hb _=>h.block b hb,fun _ _ h=>h⟩
theorem RepD.keep [Flo]{M M':Nat->Prop}{w w':World}(hk:Keep M w M' w'){d:D}{x:Value}(h:RepD M w d x):RepD M' w' d x:=by
 induction h generalizing M' w' with
 |v x=>exact .v x
 |nil sz ao cap hm=>exact .nil sz ao cap hm
 |sl sz rows b off cap f hM hb hc hm hr h1 cf aU hz ih=>
  refine .sl sz rows b off cap f (fun h=>hM (hk.mu b hb h)) (Ya hb hk.size) hc hm hr h1 (fun i j hi hj=>?_) (fun i j row d hr hd=>ih i j row d hr hd hk) (hz.same (hk.block b hb hM));rw[<-cf i j hi hj];exact Zk (a:=⟨b,off+i*sz+j,none⟩) (hk.block b hb hM)
 |ept cells b off f hM hb h1 cf aU hz ih=>
  refine .ept cells b off f (fun h=>hM (hk.mu b hb h)) (Ya hb hk.size) h1 (fun j hj=>?_) (fun j d hd=>ih j d hd hk) (hz.same (hk.block b hb hM));rw[<-cf j hj];exact Zk (a:=⟨b,off+j,none⟩) (hk.block b hb hM)
 |agg cells vs hl h1 aU ih=>exact .agg cells vs hl h1 fun j d x hj hx=>ih j d x hj hx hk
 |tup ds vs hl aU ih=>exact .tup ds vs hl fun j d x hj hx=>ih j d x hj hx hk
 |clo g caps vs hl aU ih=>exact .clo g caps vs hl fun j d x hj hx=>ih j d x hj hx hk
 |nei t x=>exact .nei t x
 |fr N x v h ih=>exact .fr N x v (ih ⟨hk.size,fun b hb hn=>hk.block b hb fun hm=>hn (.inl hm),fun b hb hm=>hm.elim (fun h=> .inl (hk.mu b hb h)) .inr⟩)
theorem RepD.one [Flo]{M:Nat->Prop}{w:World}{d:D}{x:Value}(h:RepD M w d x)(h1:d.one=true):x.oneCell'=true:=by
 induction h<;>first|rfl|exact h1|(simp[D.one]at h1;done)|(rename_i ih;exact ih h1)
def Qg:List (Nat × (Array Value->Prop)):=[]
def BF [Flo](M:Nat->Prop)(w:World):Prop:=(∀x∈Qg,¬M x.1/\∃vs E sp,w.heap[x.1]? =some (.cells vs E sp)/\x.2 vs)/\Flo.N<=w.heap.size/\∀b,M b->Flo.N<=b
theorem BF.keep [Flo]{M M':Nat->Prop}{w w':World}(h:BF M w)(hk:Keep M w M' w'):BF M' w':=⟨fun x hx=>by
 obtain⟨h1,vs,E,sp,h2,h3⟩:=h.1 x hx;have hlt:x.1 < w.heap.size:=(Yo.1 h2).1;exact⟨fun hm=>h1 (hk.mu _ hlt hm),vs,E,sp,(hk.block _ hlt h1).trans h2,h3⟩,Yj h.2.1 hk.size,fun b hb=>by
 rcases XL b w.heap.size with hl|hl
 ·exact h.2.2 b (hk.mu b hl hb)
 ·exact Yj h.2.1 hl⟩
inductive PV where
 |d (x:D)
 |any
 |ptr (k off:Nat)
 |own (k g:Nat)
 |rp (k g sz i j:Nat)
 |osl (k g sz a n:Nat)
 |clo (g:Nat) (caps:List PV)
 |agg (cells:List PV)
 |tup (vs:List PV)
 |mref (k:Nat)
def PV.one:PV->Bool
 | .d x=>x.one
 | .any=>false
 | .agg _=>false
 | .tup _=>false
 |_=>true
def fE:Value->Option Nat
 | .slice (some a) _ (_+1)=>some a.block
 |_=>none
inductive OwnV (w:World) (E sz:Nat):Value->Nat->List Value->Prop
 |nil:OwnV w E sz (.slice none 0 0) 0 []
 |zero (a:Addr):OwnV w E sz (.slice (some a) 0 0) 0 []
 |row (g n cap:Nat) (cur:Array Value) (xs:List Value) (h0:0 < cap) (hh:w.heap[g]? =some (.cells cur E (0,0))) (hn:n<=cap) (hm:cap<=maxLen) (hs:cur.size=cap*sz) (hl:xs.length=n*sz) (ht:cur.toList.take (n*sz)=xs):
  OwnV w E sz (.slice (some ⟨g,0,none⟩) n cap) n xs
theorem OwnV.one {w:World}{E sz:Nat}{v:Value}{n:Nat}{xs:List Value}(h:OwnV w E sz v n xs):v.oneCell'=true:=by cases h<;>rfl
theorem OwnV.len {w:World}{E sz:Nat}{v:Value}{n:Nat}{xs:List Value}(h:OwnV w E sz v n xs):xs.length=n*sz:=by
 cases h with
 |nil=>simp
 |zero=>simp
 |row g n cap cur xs h0 hh hn hm hs hl ht=>exact hl
theorem OwnV.lt {w:World}{E sz:Nat}{v:Value}{n:Nat}{xs:List Value}(h:OwnV w E sz v n xs){b:Nat}(hb:fE v=some b):b < w.heap.size:=by
 cases h with
 |nil=>cases hb
 |zero=>cases hb
 |row g n cap cur xs h0 hh hn hm hs hl ht=>
  obtain⟨cap,rfl⟩:∃c,cap=c+1:=⟨cap - 1,by omega⟩;simp only[fE,XU.injEq]at hb;subst hb;rcases XL g w.heap.size with hl|hl
  ·exact hl
  ·rw[YJ hl]at hh;cases hh
theorem OwnV.same {w w':World}{E sz:Nat}{v:Value}{n:Nat}{xs:List Value}(h:OwnV w E sz v n xs)(hb:∀b,fE v=some b->w'.heap[b]? =w.heap[b]?):OwnV w' E sz v n xs:=by
 cases h with
 |nil=>exact .nil
 |zero a=>exact .zero a
 |row g n cap cur xs h0 hh hn hm hs hl ht=>
  refine .row g n cap cur xs h0 ?_ hn hm hs hl ht;rw[hb g (by obtain⟨cap,rfl⟩:∃c,cap=c+1:=⟨cap - 1,by omega⟩;rfl)];exact hh
structure Cx where
 M:Nat->Prop
 bl:Nat->Option Nat
 ov:Nat->Nat->Option Value
inductive RepP [Flo] (c:Cx) (w:World):PV->Value->Prop
 |d (x:D) (v:Value) (h:RepD c.M w x v):RepP c w (.d x) v
 |any (v:Value):RepP c w .any v
 |ptr (k off b:Nat) (h:c.bl k=some b):RepP c w (.ptr k off) (.pointer (some ⟨b,off,none⟩))
 |own (k g:Nat) (v:Value) (h:c.ov k g=some v) (h1:v.oneCell'=true):RepP c w (.own k g) v
 |rp (k g sz i j b n cap:Nat) (h:c.ov k g=some (.slice (some ⟨b,0,none⟩) n cap)):RepP c w (.rp k g sz i j) (.pointer (some ⟨b,i*sz+j,none⟩))
 |osl (k g sz a n b o N cap:Nat) (h:c.ov k g=some (.slice (some ⟨b,0,none⟩) N cap)) (hn:a+n<=N) (hc:N<=cap) (ho:a < cap->o=a*sz):RepP c w (.osl k g sz a n) (.slice (some ⟨b,o,none⟩) n (cap - a))
 |clo (g:Nat) (caps:List PV) (vs:List Value) (hl:caps.length=vs.length)
  (aU:∀(j:Nat) (d:PV) (x:Value),caps[j]? =some d->vs[j]? =some x->RepP c w d x):RepP c w (.clo g caps) (.func (.func g) #[] vs.toArray)
 |agg (cells:List PV) (vs:List Value) (hl:cells.length=vs.length) (h1:∀d∈cells,d.one=true)
  (aU:∀(j:Nat) (d:PV) (x:Value),cells[j]? =some d->vs[j]? =some x->RepP c w d x):RepP c w (.agg cells) (.agg vs.toArray)
 |tup (ds:List PV) (vs:List Value) (hl:ds.length=vs.length)
  (aU:∀(j:Nat) (d:PV) (x:Value),ds[j]? =some d->vs[j]? =some x->RepP c w d x):RepP c w (.tup ds) (.tuple vs.toArray)
 |mref (k b:Nat) (h:c.bl k=some b):RepP c w (.mref k) (.map (some b))
structure Cx.le (c c':Cx):Prop where
 bl:∀k b,c.bl k=some b->c'.bl k=some b
 ov:∀k g v,c.ov k g=some v->c'.ov k g=some v
theorem Cx.le_refl (c:Cx):c.le c:=⟨fun _ _ h=>h,fun _ _ _ h=>h⟩
theorem RepP.keep [Flo]{c c':Cx}{w w':World}(hc:c.le c')(hk:Keep c.M w c'.M w'){d:PV}{x:Value}(h:RepP c w d x):RepP c' w' d x:=by
 induction h with
 |d x v h=>exact .d x v (h.keep hk)
 |any v=>exact .any v
 |ptr k off b h=>exact .ptr k off b (hc.bl _ _ h)
 |own k g v h h1=>exact .own k g v (hc.ov _ _ _ h) h1
 |rp k g sz i j b n cap h=>exact .rp k g sz i j b n cap (hc.ov _ _ _ h)
 |osl k g sz a n b o N cap h hn vK ho=>exact .osl k g sz a n b o N cap (hc.ov _ _ _ h) hn vK ho
 |clo g caps vs hl aU ih=>exact .clo g caps vs hl ih
 |agg cells vs hl h1 aU ih=>exact .agg cells vs hl h1 ih
 |tup ds vs hl aU ih=>exact .tup ds vs hl ih
 |mref k b h=>exact .mref k b (hc.bl _ _ h)
theorem RepP.one [Flo]{c:Cx}{w:World}{d:PV}{x:Value}(h:RepP c w d x)(h1:d.one=true):x.oneCell'=true:=by
 cases h with
 |d x v h=>exact h.one h1
 |any=>simp[PV.one]at h1
 |ptr=>rfl
 |own k g v h h2=>exact h2
 |agg=>simp[PV.one]at h1
 |tup=>simp[PV.one]at h1
 |_=>rfl
inductive Chunk where
 |none
 |gone
 |box (T:Nat) (cells:List PV)
 |row (E sz g:Nat) (rows:List (List PV))
 |mp (n:Nat) (s:Bool) (ents:List (List Int × Int))
 |it (n:Nat) (s:Bool) (ents:List (List Int × Int)) (seen:List Nat)
def ab (rows:List (List D)):List (List PV):=rows.map (·.map .d)
def jR (s:Bool)(ks:List Int):Value:=if s then .agg (ks.map (.int .i64)).toArray else .int .i64 (ks.headD 0)
def bx (s:Bool):List (List Int × Int)->Nat->List MapEntry
 |[],_=>[]
 |(k,v)::l,i=>{key:=jR s k,val:= .int .i64 v,born:=i}::bx s l (i+1)
def Cx.block (c:Cx)(k:Nat):Chunk->Option Nat
 | .box _ _=>c.bl k
 | .row _ _ g _=>(c.ov k g).bind fE
 | .mp _ _ _=>c.bl k
 | .it _ _ _ _=>c.bl k
 |_=>Option.none
def bA [Flo](c:Cx)(w:World)(ds:List PV)(vs:List Value):Prop:=ds.length=vs.length/\∀(j:Nat) (d:PV) (x:Value),ds[j]? =some d->vs[j]? =some x->RepP c w d x
def cj [Flo](M:Nat->Prop)(w:World)(ds:List D)(vs:List Value):Prop:=ds.length=vs.length/\∀(j:Nat) (d:D) (x:Value),ds[j]? =some d->vs[j]? =some x->RepD M w d x
theorem bA.keep [Flo]{c c':Cx}{w w':World}(hc:c.le c')(hk:Keep c.M w c'.M w'){ds:List PV}{vs:List Value}(h:bA c w ds vs):bA c' w' ds vs:=⟨h.1,fun j d x h1 h2=>(h.2 j d x h1 h2).keep hc hk⟩
theorem cj.keep [Flo]{M M':Nat->Prop}{w w':World}(hk:Keep M w M' w'){ds:List D}{vs:List Value}(h:cj M w ds vs):cj M' w' ds vs:=⟨h.1,fun j d x h1 h2=>(h.2 j d x h1 h2).keep hk⟩
inductive ChunkOK [Flo] (c:Cx) (w:World) (k:Nat):Chunk->Prop
 |none (h1:c.bl k= .none) (h2:∀g,c.ov k g= .none):ChunkOK c w k .none
 |gone:ChunkOK c w k .gone
 |box (T:Nat) (cells:List PV) (b:Nat) (vs:List Value) (hb:c.bl k=some b) (hh:w.heap[b]? =some (.cells vs.toArray T (0,0))) (hr:bA c w cells vs) (h1:∀d∈cells,d.one=true):ChunkOK c w k (.box T cells)
 |row (E sz g:Nat) (rows:List (List PV)) (v:Value) (xs:List Value) (hv:c.ov k g=some v) (df:OwnV w E sz v rows.length xs) (hr:bA c w rows.flatten xs)
  (cK:∀r∈rows,r.length=sz) (h1:∀r∈rows,∀d∈r,d.one=true) (hg:∀g',g < g'->c.ov k g'= .none):ChunkOK c w k (.row E sz g rows)
 |mp (n:Nat) (s:Bool) (ents:List (List Int × Int)) (b:Nat) (hb:c.bl k=some b) (hh:w.heap[b]? =some (.map (bx s ents 0).toArray ents.length)) (hn:∀kv∈ents,kv.1.length=n):ChunkOK c w k (.mp n s ents)
 |it (n:Nat) (s:Bool) (ents:List (List Int × Int)) (seen:List Nat) (b bm:Nat) (hb:c.bl k=some b) (hh:w.heap[b]? =some (.mapIter (some bm) ents.length seen.toArray ents.length)) (hM:¬c.M bm) (hm:w.heap[bm]? =some (.map (bx s ents 0).toArray ents.length)):ChunkOK c w k (.it n s ents seen)
structure FS where
 env:Nat->PV
 heap:Nat->Chunk
structure ExtL (L:Nat->Prop)(w w':World):Prop where
 os:w'.os=w.os
 tape:w'.tape=w.tape
 output:w'.output=w.output
 size:w.heap.size<=w'.heap.size
 block:∀b,b < w.heap.size->¬L b->w'.heap[b]? =w.heap[b]?
theorem ExtL.refl (L:Nat->Prop)(w:World):ExtL L w w:=⟨rfl,rfl,rfl,XA _,fun _ _ _=>rfl⟩
theorem ExtL.trans {L:Nat->Prop}{w w' w'':World}(h:ExtL L w w')(g:ExtL L w' w''):ExtL L w w'':=
 ⟨g.os.trans h.os,g.tape.trans h.tape,g.output.trans h.output,Yj h.size g.size,fun b hb hl=>(g.block b (Ya hb h.size) hl).trans (h.block b hb hl)⟩
theorem ExtL.of_ext {L:Nat->Prop}{w w':World}(h:dy w w'):ExtL L w w':=⟨h.os,h.tape,h.output,h.size,fun b hb _=>h.block b hb⟩
theorem ExtL.ext {w w':World}(h:ExtL (fun _=>False) w w'):dy w w':=⟨h.os,h.tape,h.output,h.size,fun b hb=>h.block b hb id⟩
structure Cfg where
 P:Program
 n:Nat
 m:Nat
 w0:World
 M0:Nat->Prop
 L:Nat->Prop
 c0:Cx
structure RealC [Flo](X:Cfg)(s:FS)(a:Act)(w:World)(c:Cx):Prop where
 size:a.tmps.size=X.n
 defers:a.defers=[]
 ext:ExtL X.L X.w0 w
 inv:BF (fun b=>X.M0 b\/X.L b) X.w0
 fresh:∀b,X.M0 b->b < X.w0.heap.size/\¬X.L b
 mu:∀b,c.M b↔X.M0 b\/∃k,c.block k (s.heap k)=some b
 new:∀k b,c.block k (s.heap k)=some b->(X.L b\/X.w0.heap.size<=b)/\b < w.heap.size
 apart:∀k k' b,c.block k (s.heap k)=some b->c.block k' (s.heap k')=some b->k=k'
 env:∀t,RepP c w (s.env t) (a.tmps.getD t undef)
 chunk:∀k,ChunkOK c w k (s.heap k)
 lent:∀k,k < X.m->c.bl k=X.c0.bl k/\∀g v,X.c0.ov k g=some v->c.ov k g=some v
theorem RealC.ginv [Flo]{X:Cfg}{s:FS}{a:Act}{w:World}{c:Cx}(h:RealC X s a w c):BF c.M w:=
 h.inv.keep ⟨h.ext.size,fun b hb hn=>h.ext.block b hb (fun hl=>hn (.inr hl)),fun b hb hm=>by
  rcases(h.mu b).1 hm with h0|⟨k,hk⟩
  ·exact .inl h0
  ·rcases(h.new k b hk).1 with h1|h1
   ·exact .inr h1
   ·omega⟩
def eQ [Flo](X:Cfg)(s:FS)(a:Act)(w:World):Prop:=∃c,RealC X s a w c
structure Res where
 pv:PV
 eff:List (Nat × Chunk):=[]
 touch:List Nat:=[]
def cw:List (Nat × Chunk)->(Nat->Chunk)->Nat->Chunk
 |[],h=>h
 |(k,c)::l,h=>fun k'=>if k'=k then c else cw l h k'
def FS.put (s:FS)(dst:Option Nat)(p:PV):FS:=
 match dst with
 |some d=>{s with env:=fun t=>if t=d then p else s.env t}
 |none=>s
def FS.app (s:FS)(dst:Option Nat)(r:Res):FS:=FS.put {s with heap:=cw r.eff s.heap} dst r.pv
def bH [Flo](X:Cfg)(ops:Array Oper)(s:FS)(o:Oper)(r:Res):Prop:=
 (∀d,o.dst=some d->d < X.n)/\(∀kc∈r.eff,kc.1∈r.touch)/\
 ∀s':FS,(∀t∈o.looksAt ops,s'.env t=s.env t)->(∀k∈r.touch,s'.heap k=s.heap k)->∀a w,eQ X s' a w->
  ∀K Q,(∀v w',eQ X (s'.app o.dst r) (a.put o.dst v) w'->K (a.put o.dst v) w')->Oper.wp X.P o a w K Q
theorem a4p {p:Prop}(h:p:=by
 rw[hx]at this;simp at this;subst this;simp only[Y5,hx];simpa using hg):p:=h
structure It where
 o:Oper
 want:Bool
 res:Res
def BG (ops:Array Oper)(s:FS)(j:Nat):Option (Option Bool):=
 match (ops[j]?).bind (·.dst)with
 |none=>some none
 |some t=>match s.env t with
  | .d (.v (.bool b))=>some (some b)
  | .d (.v (.tuple _))=>some none
  |_=>none
def o5 (ops:Array Oper)(s:FS)(o:Oper):Option Bool:=
 match o.guard with
 |none=>some true
 |some (j,want)=>(BG ops s j).map (·==some want)
def Ga:Res:={pv:= .d (.v undef)}
def L9 [Flo](X:Cfg)(ops:Array Oper)(s:FS)(it:It):Prop:=
 o5 ops s it.o=some it.want/\(it.want=true->bH X ops s it.o it.res)/\(it.want=false->it.res=Ga/\∀d,it.o.dst=some d->d < X.n)
theorem RealC.put [Flo]{X:Cfg}{s:FS}{a:Act}{w:World}{c:Cx}(h:RealC X s a w c){p:PV}{v:Value}(hp:RepP c w p v){dst:Option Nat}(hd:∀d,dst=some d->d < X.n):
 RealC X (s.put dst p) (a.put dst v) w c:=by
 cases dst with
 |none=>exact h
 |some d=>
  have hd:=hd d rfl;refine⟨by simpa[Act.put]using h.size,by simpa[Act.put]using h.defers,h.ext,h.inv,h.fresh,h.mu,h.new,h.apart,fun t=>?_,h.chunk,h.lent⟩;by_cases ht:t=d
  ·subst ht;have hs:t < a.tmps.size:=by rw[h.size];exact hd
   simp only[FS.put,Act.put,if_true,Ys,Array.getElem?_setIfInBounds,hs];simpa[hs]using hp
  ·have bG:d≠t:=fun e=>ht e.symm;have:=h.env t;simp only[FS.put,Act.put,af ht,Ys,_d bG];simpa[Ys]using this
theorem RealC.bool [Flo]{X:Cfg}{s:FS}{a:Act}{w:World}{c:Cx}(h:RealC X s a w c){t:Nat}{x:Value}(ht:s.env t= .d (.v x)):a.tmps.getD t undef=x:=by
 have:=h.env t;rw[ht]at this;cases this with
 |d x v h=>cases h with|v=>rfl
theorem Ma [Flo]{X:Cfg}{ops:Array Oper}{s:FS}{a:Act}{w:World}{o:Oper}{g:Bool}(h:eQ X s a w)(hg:o5 ops s o=some g):Region.wanted o (yielded ops a.tmps)=g:=by
 obtain⟨c,h⟩:=h;unfold o5 at hg;unfold Region.wanted;split at hg
 ·rename_i hn;simp only[hn];exact XU.inj hg
 ·rename_i j want hj;simp only[hj];unfold BG at hg;unfold yielded;split at hg
  ·rename_i hn;rw[hn];simp at hg;simpa using hg
  ·rename_i t hn;rw[hn];split at hg
   ·rename_i b hb;have:=h.bool hb;rw[Ys]at this;cases hx:a.tmps[t]? with
    |none=>rw[hx]at this;simp[undef]at this
    |some y=>exact a4p
   ·rename_i vs hb;have:=h.bool hb;rw[Ys]at this;cases hx:a.tmps[t]? with
    |none=>simp only[Y5,hx];simpa using hg
    |some y=>exact a4p
   ·simp at hg
theorem Gb [Flo]{X:Cfg}{ops:Array Oper}{s s':FS}{it:It}{i:Nat}{a:Act}{w:World}{K:Act->World->Prop}{Q:Exit->Act->World->Prop}(hi:ops[i]? =some it.o)(h:L9 X ops s it)
 (he:∀t∈it.o.looksAt ops,s'.env t=s.env t) (hk:∀k∈it.res.touch,s'.heap k=s.heap k) (hr:eQ X s' a w)
 (hK:∀v w',eQ X (s'.app it.o.dst it.res) (a.put it.o.dst v) w'->K (a.put it.o.dst v) w'):wpOp X.P ops Q i K a w:=by
 obtain⟨h1,h2,h3⟩:=h;have hg:o5 ops s' it.o=some it.want:=by
  rw[<-h1];unfold o5;split
  ·rfl
  ·rename_i j want hj;unfold BG;cases hd:(ops[j]?).bind (·.dst)with
   |none=>rfl
   |some t=>
    have:=he t (by simp[Oper.looksAt,hj,hd]);simp only[this]
 have hw:=Ma hr hg;unfold wpOp;simp only[hi,hw];cases Tm:it.want with
 |true=>
  simp only[if_true];exact .inl ((h2 Tm).2.2 s' he hk a w hr K Q hK)
 |false=>
  obtain⟨rM,pW⟩:=h3 Tm;simp only[Yz,if_false];refine hK undef w ?_;rw[rM];obtain⟨c,hc⟩:=hr;exact⟨c,hc.put (.d _ _ (.v _)) pW⟩
def kz [Flo](X:Cfg)(ops:Array Oper):FS->Nat->List It->Prop
 |_,i,[]=>i=ops.size
 |s,i,it::its=>ops[i]? =some it.o/\L9 X ops s it/\kz X ops (s.app it.o.dst it.res) (i+1) its
def rT (s:FS)(its:List It):FS:=its.foldl (fun s it=>s.app it.o.dst it.res) s
theorem qS [Flo]{X:Cfg}{ops:Array Oper}{Q:Exit->Act->World->Prop}:∀(its:List It) (s:FS) (i:Nat) (a:Act) (w:World),kz X ops s i its->eQ X s a w->
 (∀a' w',eQ X (rT s its) a' w'->Q .normal a' w')->wpOps X.P ops Q (List.range' i its.length) a w
 |[],_,_,a,w,_,hr,hQ=>hQ a w hr
 |it::its,s,i,a,w,⟨hi,F3,ht⟩,hr,hQ=>by
  rw[XC,List.range'_succ,wpOps_cons];exact Gb hi F3 (fun _ _=>rfl) (fun _ _=>rfl) hr fun v w' hr'=>qS its _ _ _ _ ht hr' hQ
theorem o6 [Flo]{X:Cfg}{ops:Array Oper}:∀(its:List It) (s:FS) (i:Nat),kz X ops s i its->i+its.length=ops.size/\∀j it,its[j]? =some it->ops[i+j]? =some it.o/\L9 X ops (rT s (its.take j)) it
 |[],_,_,h=>⟨by simpa[kz]using h,fun j it h=>by simp at h⟩
 |it::its,s,i,⟨h1,h2,h3⟩=>by
  obtain⟨ih1,ih2⟩:=o6 its _ _ h3;refine⟨by simp only[XC];omega,fun j x hj=>?_⟩;cases j with
  |zero=>
   simp at hj;subst hj;exact⟨h1,h2⟩
  |succ j=>
   have:=ih2 j x (by simpa using hj);refine⟨by rw[show i+(j+1)=i+1+j by omega];exact this.1,this.2⟩
def Gc (l:List Nat)(es:List Edge):Nat:=es.foldl (fun s e=>if Region.binds .any e then s|||2 ^ e.on|||l.getD e.on 0 else s) 0
def zw (ops:Array Oper):Nat->List Nat
 |0=>[]
 |n+1=>let l:=zw ops n;l++[Gc l (((ops[n]?).map (·.after.toList)).getD [])]
def o7 (ops:Array Oper)(L:Nat->Bool):Prop:=∀j o,ops[j]? =some o->L j=true->∀e∈o.after.toList,Region.binds .any e=true->L e.on=true
theorem wJ (l:List Nat)(i:Nat):∀(es:List Edge) (s:Nat),(es.foldl (fun s e=>if Region.binds .any e then s|||2 ^ e.on|||l.getD e.on 0 else s) s).testBit i=true->
 s.testBit i=true\/∃e∈es,Region.binds .any e=true/\(e.on=i\/(l.getD e.on 0).testBit i=true)
 |[],s,h=> .inl h
 |e::es,s,h=>by
  rw[YK]at h;rcases wJ l i es _ h with h|⟨e',h1,h2⟩
  ·by_cases hb:Region.binds .any e=true
   ·rw[ah hb,Nat.testBit_or,Nat.testBit_or,Nat.testBit_two_pow]at h;simp only[Bool.or_eq_true,decide_eq_true_eq]at h;rcases h with (h|h)|h
    ·exact .inl h
    ·exact .inr ⟨e,by simp,hb,.inl h⟩
    ·exact .inr ⟨e,by simp,hb,.inr h⟩
   ·rw[af hb]at h;exact .inl h
  ·exact .inr ⟨e',YP _ h1,h2⟩
theorem uS (ops:Array Oper):∀n,(zw ops n).length=n
 |0=>rfl
 |n+1=>by simp[zw,uS ops n]
theorem j3 {ops:Array Oper}{L:Nat->Bool}(hc:o7 ops L):∀n j i,((zw ops n).getD j 0).testBit i=true->L j=true->L i=true
 |0,j,i,h,_=>by simp[zw]at h
 |n+1,j,i,h,hj=>by
  have bP:=uS ops n;simp only[zw,XJ,List.getElem?_append]at h;split at h
  ·exact j3 hc n j i (by simpa[XJ]using h) hj
  ·rename_i hge;rcases XL n j with hnj|hnj
   ·rw[bP]at h;rw[show ([Gc (zw ops n) (((ops[n]?).map (·.after.toList)).getD [])]:List Nat)[j - n]? =none by simp;omega]at h;simp at h
   ·obtain rfl:j=n:=aa;rw[bP,YE]at h;simp only[List.getElem?_cons_zero,YD]at h;unfold Gc at h;cases ho:ops[j]? with
    |none=>simp[ho]at h
    |some o=>
     rw[ho]at h;rcases wJ _ _ _ _ h with h|⟨e,h1,h2,h3⟩
     ·simp at h
     ·have he:=hc j o ho hj e (by simpa using h1) h2;rcases h3 with h3|h3
      ·rw[<-h3];exact he
      ·exact j3 hc j e.on i (by simpa[XJ]using h3) he
def wK (ops:Array Oper)(x y:Oper)(kx ky tx ty:List Nat):Bool:=x.apart ops y&&kx.all (fun k=>!ty.contains k)&&ky.all (fun k=>!tx.contains k)
def o8 (ops:Array Oper)(sm:List (List Nat × List Nat)):Bool:=
 let l:=zw ops ops.size
 (X4 ops.size).all fun j=>(X4 j).all fun i=>(l.getD j 0).testBit i||
  (match ops[i]?,ops[j]? with
   |some x,some y=>wK ops x y (sm.getD i ([],[])).1 (sm.getD j ([],[])).1 (sm.getD i ([],[])).2 (sm.getD j ([],[])).2
   |_,_=>false)
def Dj (its:List It)(s:FS)(i:Nat):FS:=match its[i]? with|some it=>s.app it.o.dst it.res|none=>s
def m6 (s:FS)(its:List It)(L:Nat->Bool):FS:=((X4 its.length).filter L).foldl (Dj its) s
def eK (its:List It)(t:Nat)(i:Nat):Bool:=match its[i]? with|some it=>it.o.dst==some t|none=>false
def ed (its:List It)(k:Nat)(i:Nat):Bool:=match its[i]? with|some it=>(it.res.eff.map (·.1)).contains k|none=>false
theorem BH {k:Nat}{h:Nat->Chunk}:∀{l:List (Nat × Chunk)},(l.map (·.1)).contains k=false->cw l h k=h k
 |[],_=>rfl
 |(k',c)::l,hn=>by
  simp only[Xl,List.contains_cons,Zl,beq_eq_false_iff_ne,ne_eq]at hn;simp only[cw,af hn.1];exact BH hn.2
theorem BI {k:Nat}{h h':Nat->Chunk}:∀{l:List (Nat × Chunk)},(l.map (·.1)).contains k=true->cw l h k=cw l h' k
 |[],hn=>by simp at hn
 |(k',c)::l,hn=>by
  simp only[cw];split
  ·rfl
  ·rename_i bG;refine BI ?_;simpa[bG]using hn
theorem rU {s:FS}{dst:Option Nat}{r:Res}{t:Nat}:(s.app dst r).env t=if dst=some t then r.pv else s.env t:=by
 cases dst with
 |none=>simp[FS.app,FS.put]
 |some d=>
  simp only[FS.app,FS.put,XU.injEq];by_cases h:t=d
  ·subst h;simp
  ·rw[af h,af (fun e=>h e.symm)]
theorem o9 {s:FS}{dst:Option Nat}{r:Res}{k:Nat}:(s.app dst r).heap k=cw r.eff s.heap k:=by
 cases dst<;>rfl
theorem rV (its:List It)(t:Nat):∀(l:List Nat) (s:FS),(l.foldl (Dj its) s).env t=((l.filter (eK its t)).foldl (Dj its) s).env t:=by
 have key:∀(l:List Nat) (s s':FS),s.env t=s'.env t->(l.foldl (Dj its) s).env t=((l.filter (eK its t)).foldl (Dj its) s').env t:=by
  intro l;induction l with
  |nil=>intro s s' h;exact h
  |cons i l ih=>
   intro s s' h;rw[YK,Zw];by_cases hw:eK its t i=true
   ·rw[ah hw,YK];refine ih _ _ ?_;unfold Dj;unfold eK at hw;split<;>rename_i hi<;>rw[hi]at hw
    ·rw[rU,rU,ah (by simpa using hw),ah (by simpa using hw)]
    ·cases hw
   ·rw[af hw];refine ih _ _ ?_;unfold Dj;unfold eK at hw;split<;>rename_i hi<;>rw[hi]at hw
    ·rw[rU,af (by simpa using hw),h]
    ·exact h
 intro l s;exact key l s s rfl
theorem p6 (its:List It)(k:Nat):∀(l:List Nat) (s:FS),(l.foldl (Dj its) s).heap k=((l.filter (ed its k)).foldl (Dj its) s).heap k:=by
 have key:∀(l:List Nat) (s s':FS),s.heap k=s'.heap k->(l.foldl (Dj its) s).heap k=((l.filter (ed its k)).foldl (Dj its) s').heap k:=by
  intro l;induction l with
  |nil=>intro s s' h;exact h
  |cons i l ih=>
   intro s s' h;rw[YK,Zw];by_cases hw:ed its k i=true
   ·rw[ah hw,YK];refine ih _ _ ?_;unfold Dj;unfold ed at hw;split<;>rename_i hi<;>rw[hi]at hw
    ·rw[o9,o9,BI hw]
    ·cases hw
   ·rw[af hw];refine ih _ _ ?_;unfold Dj;unfold ed at hw;split<;>rename_i hi<;>rw[hi]at hw
    ·rw[o9,BH (by simpa using hw),h]
    ·exact h
 intro l s;exact key l s s rfl
theorem rW (s:FS)(its:List It):∀i,i<=its.length->rT s (its.take i)=(X4 i).foldl (Dj its) s
 |0,_=>rfl
 |i+1,h=>by
  rw[List.range_succ,Zo,<-rW s its i aa];have hi:its[i]? =some its[i]:=Xj aa;simp only[YK,List.foldl_nil,Dj,hi,rT];rw[List.take_succ_eq_append_getElem aa,Zo];rfl
theorem nT {n i:Nat}(hi:i<=n){p q:Nat->Bool}(h1:∀j,j < i->p j=q j)(h2:∀j,i<=j->j < n->p j=false):(X4 n).filter p=(X4 i).filter q:=by
 obtain⟨m,rfl⟩:∃m,n=i+m:=⟨n - i,by omega⟩;rw[List.range_add,YT];have e1:(X4 i).filter p=(X4 i).filter q:=Z9 fun j hj=>h1 j (YO.1 hj);have e2:(List.map (fun x=>i+x) (X4 m)).filter p=[]:=by
  rw[Zp];intro j hj;obtain⟨x,hx,rfl⟩:=XF.1 hj;have:=YO.1 hx;rw[h2 _ aa aa];simp
 rw[e1,e2,Yv]
theorem a3F {p:Prop}(h:p:=by
 have kX:(j==i)=false:=by rw[beq_eq_false_iff_ne];omega
 simp only[kX,HI,Bool.or_self,Bool.and_false]):p:=h
theorem a3V {p:Prop}(h:p:=by
 have CQ:(j==i)=false:=by rw[beq_eq_false_iff_ne];exact kX
 simp only[CQ,Bool.or_false]):p:=h
theorem a4f {p:Prop}(h:p:=by
 rw[j3 hc ops.size j i hb HI]at hL;cases hL):p:=h
def Gd (its:List It):List (List Nat × List Nat):=its.map fun it=>(it.res.eff.map (·.1),it.res.touch)
def pb (ops:Array Oper):Bool:=(X4 ops.size).all fun i=>((ops[i]?).map fun o=>o.after.toList.all fun e=>!Region.binds .any e||decide (e.on < i)).getD true
section
variable {X:Cfg}{ops:Array Oper}{s:FS}{its:List It}
structure Plan [Flo](X:Cfg)(ops:Array Oper)(s:FS)(its:List It):Prop where
 len:its.length=ops.size
 at_:∀(j:Nat) (it:It),its[j]? =some it->ops[j]? =some it.o/\L9 X ops (rT s (its.take j)) it
 ind:∀(i j:Nat) (x y:It),i < j->its[i]? =some x->its[j]? =some y->((zw ops ops.size).getD j 0).testBit i=true\/wK ops x.o y.o (x.res.eff.map (·.1)) (y.res.eff.map (·.1)) x.res.touch y.res.touch=true
 sub:∀(j:Nat) (it:It),its[j]? =some it->∀kc∈it.res.eff,kc.1∈it.res.touch
 back:∀(i:Nat) (o:Oper),ops[i]? =some o->∀e∈o.after.toList,Region.binds .any e=true->e.on < i
theorem Qh [Flo](ht:kz X ops s 0 its)(hi:o8 ops (Gd its)=true)(hb:pb ops=true):Plan X ops s its:=by
 obtain⟨h1,h2⟩:=o6 its s 0 ht;simp only[Xw]at h1 h2;refine⟨h1,h2,fun i j x y hij hx hy=>?_,fun j it hj kc P0=>?_,fun i o ho e he WL=>?_⟩
 ·have WM:j < ops.size:=by rw[<-h1];exact(Xm.1 hy).1
  unfold o8 at hi;simp only[XD,YO]at hi;have:=hi j WM i hij;rw[(h2 i x hx).1,(h2 j y hy).1]at this;simp only[Gd,XJ,Xr,hx,hy,Yb,YD,Bool.or_eq_true]at this;simpa[XJ]using this
 ·obtain⟨_,h3,h4,h5⟩:=h2 j it hj;cases hw:it.want with
  |true=>exact(h4 hw).2.1 kc P0
  |false=>rw[(h5 hw).1]at P0;simp[Ga]at P0
 ·unfold pb at hb;simp only[XD,YO]at hb;have:=hb i (Yo.1 ho).1;rw[ho]at this;simp only[Yb,YD,XD]at this;have:=this e he;simpa[WL]using this
def vS (listed:Array Bool):Nat->Bool:=fun j=>listed.getD j false
theorem jc {x y:Oper}{kx ky tx ty:List Nat}(h:wK ops x y kx ky tx ty=true):x.apart ops y=true/\(∀k∈kx,k∉ty)/\(∀k∈ky,k∉tx):=by
 simp only[wK,Xv,XD,Zq,List.contains_eq_mem,decide_eq_false_iff_not]at h;exact⟨h.1.1,h.1.2,h.2⟩
theorem uT {L:Nat->Bool}(hc:o7 ops L){i:Nat}{o:Oper}(ho:ops[i]? =some o)(hr:∀e∈o.after,Region.binds .any e=true->L e.on=true):o7 ops (fun j=>L j||j==i):=by
 intro j o' ho' hj e he hb;simp only[Bool.or_eq_true,beq_iff_eq]at hj ⊢;rcases hj with hj|hj
 ·exact .inl (hc j o' ho' hj e he hb)
 ·subst hj;rw[ho]at ho';cases ho';exact .inl (hr e (by simpa using he) hb)
theorem rX {L:Nat->Bool}(hc:o7 ops L){i j:Nat}{o:Oper}(ho:ops[i]? =some o)(hr:∀e∈o.after,Region.binds .any e=true->L e.on=true)
 (hij:j≠i) (hb:((zw ops ops.size).getD i 0).testBit j=true):L j=true:=by
 have:=j3 (uT hc ho hr) ops.size i j hb ak;simpa[hij]using this
variable [Flo](hp:Plan X ops s its)
include hp
theorem Jv {L:Nat->Bool}(hc:o7 ops L){i:Nat}{it:It}(hi:its[i]? =some it)(hL:L i=false)(hr:∀e∈it.o.after,Region.binds .any e=true->L e.on=true)(t:Nat)(ht:t∈it.o.looksAt ops):
 (m6 s its L).env t=(rT s (its.take i)).env t:=by
 have dM:i < its.length:=(Xm.1 hi).1;have Tn:=(hp.at_ i it hi).1;unfold m6;rw[rV its t ((X4 its.length).filter L),rW s its i aa,rV its t (X4 i),Zh];rw[nT (i:=i) (q:=eK its t) aa]
 ·intro j hj;by_cases hw:eK its t j=true
  ·have HI:L j=true:=by
    unfold eK at hw;split at hw
    ·rename_i x hx;rcases hp.ind j i x it hj hx hi with hb|hn
     ·exact rX hc Tn hr aa hb
     ·exact absurd ht ((Oper.apart_spec (jc hn).1).1 t (by simpa using hw))
    ·cases hw
   simp[hw,HI]
  ·simp at hw;simp[hw]
 ·intro j hj WM;by_cases hw:eK its t j=true
  ·rcases XL i j with hij|hij
   ·cases HI:L j with
    |false=>simp
    |true=>
     unfold eK at hw;split at hw
     ·rename_i x hx;rcases hp.ind i j it x hij hi hx with hb|hn
      ·exact a4f
      ·exact absurd ht ((Oper.apart_spec (jc hn).1).2.2 t (by simpa using hw))
     ·cases hw
   ·obtain rfl:j=i:=aa;simp[hL]
  ·simp at hw;simp[hw]
theorem Ge {L:Nat->Bool}(hc:o7 ops L){i:Nat}{it:It}(hi:its[i]? =some it)(hL:L i=false)(hr:∀e∈it.o.after,Region.binds .any e=true->L e.on=true)(k:Nat)(ht:k∈it.res.touch):
 (m6 s its L).heap k=(rT s (its.take i)).heap k:=by
 have dM:i < its.length:=(Xm.1 hi).1;have Tn:=(hp.at_ i it hi).1;unfold m6;rw[p6 its k ((X4 its.length).filter L),rW s its i aa,p6 its k (X4 i),Zh];rw[nT (i:=i) (q:=ed its k) aa]
 ·intro j hj;by_cases hw:ed its k j=true
  ·have HI:L j=true:=by
    unfold ed at hw;split at hw
    ·rename_i x hx;rcases hp.ind j i x it hj hx hi with hb|hn
     ·exact rX hc Tn hr aa hb
     ·exact absurd ht ((jc hn).2.1 k (by simpa using hw))
    ·cases hw
   simp[hw,HI]
  ·simp at hw;simp[hw]
 ·intro j hj WM;by_cases hw:ed its k j=true
  ·rcases XL i j with hij|hij
   ·cases HI:L j with
    |false=>simp
    |true=>
     unfold ed at hw;split at hw
     ·rename_i x hx;rcases hp.ind i j it x hij hi hx with hb|hn
      ·exact a4f
      ·exact absurd ht ((jc hn).2.2 k (by simpa using hw))
     ·cases hw
   ·obtain rfl:j=i:=aa;simp[hL]
  ·simp at hw;simp[hw]
theorem Mb {L:Nat->Bool}(hc:o7 ops L){i:Nat}{it:It}(hi:its[i]? =some it)(hL:L i=false):
 m6 s its (fun j=>L j||j==i)=(m6 s its L).app it.o.dst it.res:=by
 have dM:i < its.length:=(Xm.1 hi).1;have late:∀(j:Nat) (x:It),i < j->its[j]? =some x->L j=true->wK ops it.o x.o (it.res.eff.map (·.1)) (x.res.eff.map (·.1)) it.res.touch x.res.touch=true:=by
  intro j x hij hx HI;rcases hp.ind i j it x hij hi hx with hb|hn
  ·exact a4f
  ·exact hn
 have Pc:∀t,(m6 s its (fun j=>L j||j==i)).env t=((m6 s its L).app it.o.dst it.res).env t:=by
  intro t;rw[rU];unfold m6;rw[rV,Zh];by_cases hw:it.o.dst=some t
  ·rw[ah hw];rw[nT (i:=i+1) (q:=fun j=>eK its t j&&(L j||j==i)) aa (fun _ _=>rfl),List.range_succ,YT,Zo]
   ·have:(fun j=>eK its t j&&(L j||j==i)) i=true:=by simp[eK,hi,hw]
    rw[Zw,ah this,List.filter_nil,YK,List.foldl_nil];simp only[Dj,hi];rw[rU,ah hw]
   ·intro j hj WM;cases HI:L j with
    |false=>exact a3F
    |true=>
     cases hx:its[j]? with
     |none=>simp[eK,hx]
     |some x=>
      have h2:=(Oper.apart_spec (jc (late j x aa hx HI)).1).2.1 t hw;simp[eK,hx,h2]
  ·rw[af hw,rV its t ((X4 its.length).filter L),Zh];rw[Z9 (p:=fun j=>eK its t j&&(L j||j==i)) (q:=fun j=>eK its t j&&L j)];intro j _;by_cases kX:j=i
   ·subst kX;simp[eK,hi,hw]
   ·exact a3V
 have WN:∀k,(m6 s its (fun j=>L j||j==i)).heap k=((m6 s its L).app it.o.dst it.res).heap k:=by
  intro k;rw[o9];unfold m6;rw[p6,Zh];by_cases hw:(it.res.eff.map (·.1)).contains k=true
  ·rw[nT (i:=i+1) (q:=fun j=>ed its k j&&(L j||j==i)) aa (fun _ _=>rfl),List.range_succ,YT,Zo]
   ·have:(fun j=>ed its k j&&(L j||j==i)) i=true:=by
     simp only[ed,hi,hw];simp
    rw[Zw,ah this,List.filter_nil,YK,List.foldl_nil];simp only[Dj,hi];rw[o9];exact BI hw
   ·intro j hj WM;cases HI:L j with
    |false=>exact a3F
    |true=>
     cases hx:its[j]? with
     |none=>simp[ed,hx]
     |some x=>
      have h2:=(jc (late j x aa hx HI)).2.1 k (by simpa using hw);have h3:(x.res.eff.map (·.1)).contains k=false:=by
       cases kY:(x.res.eff.map (·.1)).contains k with
       |false=>rfl
       |true=>
        obtain⟨kc,h4,h5⟩:=XF.1 (by simpa using kY:k∈x.res.eff.map (·.1));exact absurd (h5 ▸ hp.sub j x hx kc h4) h2
      simp only[ed,hx,h3,Bool.false_and]
  ·rw[BH (by simpa using hw),p6 its k ((X4 its.length).filter L),Zh];rw[Z9 (p:=fun j=>ed its k j&&(L j||j==i)) (q:=fun j=>ed its k j&&L j)];intro j _;by_cases kX:j=i
   ·subst kX;have:ed its k j=false:=by simp only[ed,hi];simpa using hw
    simp[this]
   ·exact a3V
 generalize e1:m6 s its (fun j=>L j||j==i)=x at*;generalize e2:(m6 s its L).app it.o.dst it.res=y at*;cases x;cases y;simp only[FS.mk.injEq];exact⟨funext Pc,funext WN⟩
theorem Gf {listed:Array Bool}(hs:listed.size=ops.size)(hr:Region.ready .any ops listed=[]):∀j,j < ops.size->vS listed j=true:=by
 intro j;induction j using Nat.strongRecOn with
 |_ j ih=>
  intro hj;cases hl:vS listed j with
  |true=>rfl
  |false=>
   obtain⟨o,ho⟩:∃o,ops[j]? =some o:=⟨ops[j],YM hj⟩;have:j∈Region.ready .any ops listed:=by
    rw[mem_ready];refine⟨?_,o,ho,fun e he hb=>?_⟩
    ·unfold vS at hl;rw[Ys,YM aa]at hl ⊢;simpa using hl
    ·have hlt:=hp.back j o ho e (by simpa using he) hb;exact ih e.on hlt aa
   rw[hr]at this;cases this
theorem Mc {Q:Exit->Act->World->Prop}(hQ:∀a' w',eQ X (rT s its) a' w'->Q .normal a' w'):∀(fuel:Nat) (listed:Array Bool) (a:Act) (w:World),listed.size=ops.size->o7 ops (vS listed)->
 eQ X (m6 s its (vS listed)) a w->((X4 ops.size).filter fun j=>!vS listed j).length<=fuel->wpAny X.P .any ops Q fuel listed a w:=by
 have fin:∀(listed:Array Bool) (a:Act) (w:World),listed.size=ops.size->eQ X (m6 s its (vS listed)) a w->Region.ready .any ops listed=[]->Q .normal a w:=by
  intro listed a w hs hr he;have bO:=Gf hp hs he;have:m6 s its (vS listed)=rT s its:=by
   have h1:=rW s its its.length (XA _);rw[Xq]at h1;rw[h1];unfold m6;congr 1;rw[YY];intro j hj;exact bO j (by rw[<-hp.len];exact YO.1 hj)
  rw[this]at hr;exact hQ a w hr
 intro fuel;induction fuel with
 |zero=>
  intro listed a w hs hc hr hn;have bO:∀j,j < ops.size->vS listed j=true:=by
   intro j hj;have h0:=X9 (Nat.le_zero.1 hn);rw[Zp]at h0;have:=h0 j (YO.2 hj);simpa using this
  have he:Region.ready .any ops listed=[]:=by
   rw[List.eq_nil_iff_forall_not_mem];intro j hj;rw[mem_ready]at hj;obtain⟨h1,o,ho,_⟩:=hj;have hlt:=(Yo.1 ho).1;have:=bO j hlt;unfold vS at this;rw[Ys,YM aa]at this h1;simp at this h1;rw[this]at h1;cases h1
  exact⟨he,fin listed a w hs hr he⟩
 |succ fuel ih=>
  intro listed a w hs hc hr hn;refine⟨fin listed a w hs hr,fun i hi=>?_⟩;rw[mem_ready]at hi;obtain⟨h1,o,ho,bO⟩:=hi;have hlt:=(Yo.1 ho).1;have hL:vS listed i=false:=by
   unfold vS;rw[Ys,YM aa]at h1 ⊢;simpa using h1
  obtain⟨it,F3⟩:∃it,its[i]? =some it:=⟨its[i]'(by rw[hp.len];exact hlt),Xj _⟩;obtain⟨Tn,bD⟩:=hp.at_ i it F3;rw[ho]at Tn;cases Tn;have hLn:vS (listed.setIfInBounds i true)=fun j=>vS listed j||j==i:=by
   funext j;unfold vS;by_cases kX:j=i
   ·subst kX;simp[Ys,hs,hlt]
   ·rw[getD_set_ne false (fun e=>kX e.symm)];simp[kX]
  refine Gb ho bD (Jv hp hc F3 hL bO) (Ge hp hc F3 hL bO) hr fun v w' hr'=>?_;refine ih _ _ _ (by simpa using hs) ?_ ?_ ?_
  ·rw[hLn];exact uT hc ho bO
  ·rw[hLn,Mb hp hc F3 hL];exact hr'
  ·rw[hLn];have a0R:((X4 ops.size).filter fun j=>!(vS listed j||j==i)).length < ((X4 ops.size).filter fun j=>!vS listed j).length:=by
    have yZ:((X4 ops.size).filter fun j=>!(vS listed j||j==i))=((X4 ops.size).filter fun j=>!vS listed j).filter (fun j=>!(j==i)):=by
     rw[Zh];exact Z9 fun j _=>by cases vS listed j<;>simp
    rw[yZ];refine List.length_filter_lt_length_iff_exists.2 ⟨i,?_,by simp⟩;rw[Zv];exact⟨YO.2 hlt,by simp[hL]⟩
   show ((X4 ops.size).filter fun j=>!(vS listed j||j==i)).length<=fuel;omega
end
theorem As (n j:Nat):vS (Y1 n false) j=false:=by
 unfold vS;rw[Ys,Array.getElem?_replicate];split<;>rfl
theorem Dk [Flo]{X:Cfg}{ops:Array Oper}{s:FS}{its:List It}{Q:Exit->Act->World->Prop}{a:Act}{w:World}(hm:X.P.follows .mixedOrders=true)(id:Nat)(draw:Bool)(ht:kz X ops s 0 its)(hd:draw=true->o8 ops (Gd its)=true/\pb ops=true)
 (hr:eQ X s a w) (hQ:∀a' w',eQ X (rT s its) a' w'->Q .normal a' w'):(Code.region id ops draw).wp X.P Q a w:=by
 cases draw with
 |false=>
  refine wp_region ?_;have h1:=(o6 its s 0 ht).1;have:=qS its s 0 a w ht hr hQ;rw[List.range_eq_range',<-h1,Xw];exact this
 |true=>
  obtain⟨hi,hb⟩:=hd rfl;refine wp_region_any hm (Mc (Qh ht hi hb) hQ _ _ _ _ ak ?_ ?_ ?_)
  ·intro j o ho hj;rw[As]at hj;cases hj
  ·have:m6 s its (vS (Y1 ops.size false))=s:=by
    unfold m6;have:(X4 its.length).filter (vS (Y1 ops.size false))=[]:=by
     rw[Zp];intro j _;simp[As]
    rw[this];rfl
   rw[this];obtain⟨c,hc⟩:=hr;refine⟨c,hc.size,hc.defers,⟨hc.ext.os,hc.ext.tape,hc.ext.output,hc.ext.size,hc.ext.block⟩,hc.inv,hc.fresh,hc.mu,hc.new,hc.apart,fun t=>?_,fun k=>?_,hc.lent⟩
   ·have hk:Keep c.M w c.M {w with drawn:=w.drawn+1}:=⟨XA _,fun _ _ _=>rfl,fun _ _ h=>h⟩;exact(hc.env t).keep c.le_refl hk
   ·have hk:Keep c.M w c.M {w with drawn:=w.drawn+1}:=⟨XA _,fun _ _ _=>rfl,fun _ _ h=>h⟩;cases bo:s.heap k with
    |none=>have:=hc.chunk k;rw[bo]at this;cases this with|none h1 h2=>exact .none h1 h2
    |gone=>exact .gone
    |box T cells=>have:=hc.chunk k;rw[bo]at this;cases this with|box _ _ b vs hb hh hr h1=>exact .box T cells b vs hb hh (hr.keep c.le_refl hk) h1
    |row E sz g rows=>have:=hc.chunk k;rw[bo]at this;cases this with|row _ _ _ _ v xs hv df hr cK h1 hg=>exact .row E sz g rows v xs hv (df.same fun _ _=>rfl) (hr.keep c.le_refl hk) cK h1 hg
    |mp nB sB ents=>have:=hc.chunk k;rw[bo]at this;cases this with|mp _ _ _ b hb hh hn=>exact .mp nB sB ents b hb hh hn
    |it nB sB ents seen=>have:=hc.chunk k;rw[bo]at this;cases this with|it _ _ _ _ b bm hb hh hM hm=>exact .it nB sB ents seen b bm hb hh hM hm
  ·refine Yj (Y8 _ _) ?_;simp
theorem a2a {p:Prop}(h:p:=by
 show c.M b'↔(c.M b'/\c.block k (s.heap k)≠some b')\/c.bl k=some b';rw[cu,hb];constructor
 ·intro hm;by_cases e:b=b'
  ·exact .inr (by rw[e])
  ·exact .inl ⟨hm,fun h=>e (XU.inj h)⟩
 ·rintro (⟨hm,_⟩|e)
  ·exact hm
  ·exact(h.mu b').2 (.inr ⟨k,by rw[cu];exact e⟩)):p:=h
theorem a2A {p:Prop}(h:p:=by
 simp only[Cx.block,if_true,XU.injEq];exact⟨fun h=>h.imp id Eq.symm,fun h=>h.imp id Eq.symm⟩):p:=h
theorem a3r {p:Prop}(h:p:=by
 simp only[Cx.block,if_true,XU.injEq]at hb;rw[size_alloc];omega):p:=h
theorem a3U {p:Prop}(h:p:=by
 refine .inr ⟨k,?_⟩;show c'.block k (cw [(k,ch)] s.heap k)=_;rw[dh,ah rfl];exact h1):p:=h
theorem a3X {p:Prop}(h:p:=by
 rw[af h1,cu k' _ h1]at hb;rw[af h2,cu k'' _ h2]at hb';exact h.apart k' k'' b hb hb'):p:=h
theorem a4G {p:Prop}(h:p:=by
 intro k' ch' bG;cases ch'<;>simp[Cx.block,uJ k' bG,ec k' bG]):p:=h
theorem ChunkOK.keep [Flo]{k:Nat}{c c':Cx}{w w':World}{ch:Chunk}(h:ChunkOK c w k ch)(hle:c.le c')(hk:Keep c.M w c'.M w')(hb:∀b,c.block k ch=some b->w'.heap[b]? =w.heap[b]?)
 (uJ:c'.bl k=c.bl k) (ec:c'.ov k=c.ov k):ChunkOK c' w' k ch:=by
 cases h with
 |none h1 h2=>exact .none (by rw[uJ];exact h1) (fun g=>by rw[ec];exact h2 g)
 |gone=>exact .gone
 |box T cells b vs bW hh hr h1=>exact .box T cells b vs (by rw[uJ];exact bW) (by rw[hb b bW];exact hh) (hr.keep hle hk) h1
 |row E sz g rows v xs hv df hr cK h1 hg=>
  exact .row E sz g rows v xs (by rw[ec];exact hv) (df.same fun b e=>hb b (by simp[Cx.block,hv,e])) (hr.keep hle hk) cK h1 (by rw[ec];exact hg)
 |mp nB sB ents b bW hh hn=>exact .mp nB sB ents b (by rw[uJ];exact bW) (by rw[hb b bW];exact hh) hn
 |it nB sB ents seen b bm bW hh hM hm=>
  have hlt:bm < w.heap.size:=(Yo.1 hm).1;exact .it nB sB ents seen b bm (by rw[uJ];exact bW) (by rw[hb b bW];exact hh) (fun h=>hM (hk.mu _ hlt h)) (by rw[hk.block _ hlt hM];exact hm)
theorem RealC.lt [Flo]{X:Cfg}{s:FS}{a:Act}{w:World}{c:Cx}(h:RealC X s a w c){b:Nat}(hb:c.M b):b < w.heap.size:=by
 rcases(h.mu b).1 hb with h0|⟨k,hk⟩
 ·exact Ya (h.fresh b h0).1 h.ext.size
 ·exact(h.new k b hk).2
theorem RealC.grow [Flo]{X:Cfg}{s:FS}{a:Act}{w w':World}{c:Cx}(h:RealC X s a w c)(hx:dy w w'):RealC X s a w' c:=by
 have hk:Keep c.M w c.M w':=Keep.ext hx fun b hb=>h.lt hb;exact⟨h.size,h.defers,h.ext.trans (.of_ext hx),h.inv,h.fresh,h.mu,fun k b hb=>⟨(h.new k b hb).1,Ya (h.new k b hb).2 hx.size⟩,h.apart,fun t=>(h.env t).keep c.le_refl hk,
  fun k=>(h.chunk k).keep c.le_refl hk (fun b hb=>hx.block b (h.new k b hb).2) rfl rfl,h.lent⟩
theorem j4 (w:World)(o:Obj):dy w (w.alloc o):=(Below.refl _ _).alloc (XA _) o
theorem jt (w:World)(o:Obj):(w.alloc o).heap[w.heap.size]? =some o:=by
 show (w.heap.push o)[w.heap.size]? =some o;simp
theorem size_alloc (w:World)(o:Obj):(w.alloc o).heap.size=w.heap.size+1:=by
 show (w.heap.push o).size=_;simp
theorem rY (k:Nat)(c:Chunk)(h:Nat->Chunk):cw [(k,c)] h=fun k'=>if k'=k then c else h k':=rfl
theorem RealC.new_chunk [Flo]{X:Cfg}{s:FS}{a:Act}{w w':World}{c c':Cx}(h:RealC X s a w c){k:Nat}{ch:Chunk}(hk:s.heap k= .none)(vL:¬k < X.m)(hx:dy w w')(hle:c.le c')(uJ:∀k',k'≠k->c'.bl k'=c.bl k')(ec:∀k',k'≠k->c'.ov k'=c.ov k')
 (hM:∀b,c'.M b↔c.M b\/c'.block k ch=some b) (mh:∀b,c'.block k ch=some b->w.heap.size<=b/\b < w'.heap.size)
 (HJ:Keep c.M w c'.M w'->ChunkOK c' w' k ch):RealC X {s with heap:=cw [(k,ch)] s.heap} a w' c':=by
 have mo:Keep c.M w c'.M w':=⟨hx.size,fun b hb _=>hx.block b hb,fun b hb hm=>by
  rcases(hM b).1 hm with h1|h1
  ·exact h1
  ·have:=(mh b h1).1;omega⟩
 have cu:∀k' ch',k'≠k->c'.block k' ch'=c.block k' ch':=a4G
 have dh:∀k',cw [(k,ch)] s.heap k'=if k'=k then ch else s.heap k':=fun _=>rfl;refine⟨h.size,h.defers,h.ext.trans (.of_ext hx),h.inv,h.fresh,fun b=>?_,fun k' b hb=>?_,fun k' k'' b hb hb'=>?_,fun t=>(h.env t).keep hle mo,fun k'=>?_,fun k' hk'=>⟨(uJ k' (fun e=>vL (e ▸ hk'))).trans (h.lent k' hk').1,fun g v hv=>hle.ov _ _ _ ((h.lent k' hk').2 g v hv)⟩⟩
 ·rw[hM b,h.mu b];constructor
  ·rintro ((h0|⟨k',h1⟩)|h1)
   ·exact .inl h0
   ·refine .inr ⟨k',?_⟩;have bG:k'≠k:=fun e=>by subst e;rw[hk]at h1;simp[Cx.block]at h1
    show c'.block k' (cw [(k,ch)] s.heap k')=_;rw[dh,af bG,cu k' _ bG];exact h1
   ·exact a3U
  ·rintro (h0|⟨k',h1⟩)
   ·exact .inl (.inl h0)
   ·simp only[dh]at h1;by_cases bG:k'=k
    ·subst bG;rw[ah rfl]at h1;exact .inr h1
    ·rw[af bG,cu k' _ bG]at h1;exact .inl (.inr ⟨k',h1⟩)
 ·simp only[dh]at hb;by_cases bG:k'=k
  ·subst bG;rw[ah rfl]at hb;exact⟨.inr (Yj h.ext.size (mh b hb).1),(mh b hb).2⟩
  ·rw[af bG,cu k' _ bG]at hb;exact⟨(h.new k' b hb).1,Ya (h.new k' b hb).2 hx.size⟩
 ·simp only[dh]at hb hb';by_cases h1:k'=k
  ·by_cases h2:k''=k
   ·omega
   ·subst h1;rw[ah rfl]at hb;rw[af h2,cu k'' _ h2]at hb';have:=(mh b hb).1;have:=(h.new k'' b hb').2;omega
  ·by_cases h2:k''=k
   ·subst h2;rw[ah rfl]at hb';rw[af h1,cu k' _ h1]at hb;have:=(mh b hb').1;have:=(h.new k' b hb).2;omega
   ·exact a3X
 ·simp only[dh];by_cases bG:k'=k
  ·subst bG;rw[ah rfl];exact HJ mo
  ·rw[af bG];exact(h.chunk k').keep hle mo (fun b hb=>hx.block b (h.new k' b hb).2) (uJ k' bG) (ec k' bG)
theorem RealC.new_box [Flo]{X:Cfg}{s:FS}{a:Act}{w:World}{c:Cx}(h:RealC X s a w c){k:Nat}(hk:s.heap k= .none)(vL:¬k < X.m)(T:Nat)(cells:List PV)(vs:List Value)(hr:bA c w cells vs)(h1:∀d∈cells,d.one=true):
 ∃c',RealC X {s with heap:=cw [(k,.box T cells)] s.heap} a (w.alloc (.cells vs.toArray T)) c'/\RepP c' (w.alloc (.cells vs.toArray T)) (.ptr k 0) (.pointer (some ⟨w.heap.size,0,none⟩)):=by
 have bo:=h.chunk k;rw[hk]at bo;cases bo with
 |none qq WO=>
  have hx:=j4 w (.cells vs.toArray T);have bW:(fun k'=>if k'=k then some w.heap.size else c.bl k') k=some w.heap.size:=ah rfl;refine⟨{M:=fun b=>c.M b\/b=w.heap.size,bl:=fun k'=>if k'=k then some w.heap.size else c.bl k',ov:=c.ov},?_,.ptr k 0 _ bW⟩;have hle:c.le {M:=fun b=>c.M b\/b=w.heap.size,bl:=fun k'=>if k'=k then some w.heap.size else c.bl k',ov:=c.ov}:=
   ⟨fun k' b hb=>by
    have:k'≠k:=fun e=>by subst e;rw[qq]at hb;cases hb
    show (if k'=k then some w.heap.size else c.bl k')=some b;rw[af this];exact hb,fun _ _ _ h=>h⟩
  refine h.new_chunk hk vL hx hle (fun k' bG=>af bG) (fun _ _=>rfl) (fun b=>?_) (fun b hb=>?_) (fun mo=>?_)
  ·exact a2A
  ·exact a3r
  ·exact .box T cells w.heap.size vs bW (jt w _) (hr.keep hle mo) h1
theorem RealC.new_row [Flo]{X:Cfg}{s:FS}{a:Act}{w w':World}{c:Cx}(h:RealC X s a w c){k:Nat}(hk:s.heap k= .none)(vL:¬k < X.m)(E sz:Nat)(rows:List (List PV))(v:Value)(xs:List Value)(hx:dy w w')
 (df:OwnV w' E sz v rows.length xs) (kr:∀b,fE v=some b->w.heap.size<=b) (hr:bA c w rows.flatten xs) (cK:∀r∈rows,r.length=sz) (h1:∀r∈rows,∀d∈r,d.one=true):
 ∃c',RealC X {s with heap:=cw [(k,.row E sz 0 rows)] s.heap} a w' c'/\RepP c' w' (.own k 0) v:=by
 have bo:=h.chunk k;rw[hk]at bo;have Dh:v.oneCell'=true:=df.one;cases bo with
 |none qq WO=>
  have bD:(fun k' g=>if k'=k/\g=0 then some v else c.ov k' g) k 0=some v:=ah ⟨rfl,rfl⟩;have hle:c.le {M:=fun b=>c.M b\/fE v=some b,bl:=c.bl,ov:=fun k' g=>if k'=k/\g=0 then some v else c.ov k' g}:=
   ⟨fun _ _ h=>h,fun k' g u hu=>by
    have:k'≠k:=fun e=>by subst e;rw[WO]at hu;cases hu
    show (if k'=k/\g=0 then some v else c.ov k' g)=some u;rw[af (fun e=>this e.1)];exact hu⟩
  have cu:∀b,(Cx.block {M:=fun b=>c.M b\/fE v=some b,bl:=c.bl,ov:=fun k' g=>if k'=k/\g=0 then some v else c.ov k' g} k (.row E sz 0 rows)=some b)↔fE v=some b:=by
   intro b;simp[Cx.block]
  refine⟨{M:=fun b=>c.M b\/fE v=some b,bl:=c.bl,ov:=fun k' g=>if k'=k/\g=0 then some v else c.ov k' g},?_,.own k 0 v bD Dh⟩;refine h.new_chunk hk vL hx hle (fun _ _=>rfl) (fun k' bG=>?_) (fun b=>?_) (fun b hb=>?_) (fun mo=>?_)
  ·funext g;exact af (fun e=>bG e.1)
  ·rw[cu b]
  ·rw[cu b]at hb;exact⟨kr b hb,df.lt hb⟩
  ·refine .row E sz 0 rows v xs bD df (hr.keep hle mo) cK h1 (fun g' hg=>?_);show (if k=k/\g'=0 then some v else c.ov k g')=none;rw[af aa];exact WO g'
theorem RealC.turn [Flo]{X:Cfg}{s:FS}{a:Act}{w w':World}{c c':Cx}(h:RealC X s a w c){k:Nat}{ch:Chunk}(hle:c.le c')(WP:c'.bl k=c.bl k)(uJ:∀k',k'≠k->c'.bl k'=c.bl k')(ec:∀k',k'≠k->c'.ov k'=c.ov k')
 (hos:w'.os=w.os) (ht:w'.tape=w.tape) (ho:w'.output=w.output) (hs:w.heap.size<=w'.heap.size) (HK:∀b,b < w.heap.size->c.block k (s.heap k)≠some b->w'.heap[b]? =w.heap[b]?)
 (hM:∀b,c'.M b↔(c.M b/\c.block k (s.heap k)≠some b)\/c'.block k ch=some b)
 (mh:∀b,c'.block k ch=some b->(c.block k (s.heap k)=some b\/w.heap.size<=b)/\b < w'.heap.size)
 (HJ:Keep c.M w c'.M w'->ChunkOK c' w' k ch):RealC X {s with heap:=cw [(k,ch)] s.heap} a w' c':=by
 have own:∀b,c.block k (s.heap k)=some b->c.M b:=fun b hb=>(h.mu b).2 (.inr ⟨k,hb⟩);have mo:Keep c.M w c'.M w':=⟨hs,fun b hb hm=>HK b hb (fun e=>hm (own b e)),fun b hb hm=>by
  rcases(hM b).1 hm with h1|h1
  ·exact h1.1
  ·rcases(mh b h1).1 with h2|h2
   ·exact own b h2
   ·omega⟩
 have cu:∀k' ch',k'≠k->c'.block k' ch'=c.block k' ch':=a4G
 have dh:∀k',cw [(k,ch)] s.heap k'=if k'=k then ch else s.heap k':=fun _=>rfl;have oldNe:∀k' b,k'≠k->c.block k' (s.heap k')=some b->c.block k (s.heap k)≠some b:=fun k' b bG hb e=>bG (h.apart k' k b hb e);refine⟨h.size,h.defers,⟨hos.trans h.ext.os,ht.trans h.ext.tape,ho.trans h.ext.output,Yj h.ext.size hs,fun b hb P1=>?_⟩,h.inv,h.fresh,fun b=>?_,fun k' b hb=>?_,fun k' k'' b hb hb'=>?_,fun t=>(h.env t).keep hle mo,fun k'=>?_,fun k' hk'=>⟨?_,fun g v hv=>hle.ov _ _ _ ((h.lent k' hk').2 g v hv)⟩⟩
 ·refine(HK b (Ya hb h.ext.size) (fun e=>?_)).trans (h.ext.block b hb P1);rcases(h.new k b e).1 with h1|h1
  ·exact P1 h1
  ·omega
 ·rw[hM b];constructor
  ·rintro (⟨h0,bG⟩|h1)
   ·rcases(h.mu b).1 h0 with h0|⟨k',h1⟩
    ·exact .inl h0
    ·refine .inr ⟨k',?_⟩;have iH:k'≠k:=fun e=>by subst e;exact bG h1
     show c'.block k' (cw [(k,ch)] s.heap k')=_;rw[dh,af iH,cu k' _ iH];exact h1
   ·exact a3U
  ·rintro (h0|⟨k',h1⟩)
   ·refine .inl ⟨(h.mu b).2 (.inl h0),fun e=>?_⟩;rcases(h.new k b e).1 with h1|h1
    ·exact(h.fresh b h0).2 h1
    ·have:=(h.fresh b h0).1;omega
   ·simp only[dh]at h1;by_cases bG:k'=k
    ·subst bG;rw[ah rfl]at h1;exact .inr h1
    ·rw[af bG,cu k' _ bG]at h1;exact .inl ⟨(h.mu b).2 (.inr ⟨k',h1⟩),oldNe k' b bG h1⟩
 ·simp only[dh]at hb;by_cases bG:k'=k
  ·subst bG;rw[ah rfl]at hb;refine⟨?_,(mh b hb).2⟩;rcases(mh b hb).1 with h2|h2
   ·exact(h.new _ b h2).1
   ·exact .inr (Yj h.ext.size h2)
  ·rw[af bG,cu k' _ bG]at hb;exact⟨(h.new k' b hb).1,Ya (h.new k' b hb).2 hs⟩
 ·simp only[dh]at hb hb';by_cases h1:k'=k
  ·by_cases h2:k''=k
   ·omega
   ·subst h1;rw[ah rfl]at hb;rw[af h2,cu k'' _ h2]at hb';rcases(mh b hb).1 with h3|h3
    ·exact absurd h3 (oldNe k'' b h2 hb')
    ·have:=(h.new k'' b hb').2;omega
  ·by_cases h2:k''=k
   ·subst h2;rw[ah rfl]at hb';rw[af h1,cu k' _ h1]at hb;rcases(mh b hb').1 with h3|h3
    ·exact absurd h3 (oldNe k' b h1 hb)
    ·have:=(h.new k' b hb).2;omega
   ·exact a3X
 ·simp only[dh];by_cases bG:k'=k
  ·subst bG;rw[ah rfl];exact HJ mo
  ·rw[af bG];exact(h.chunk k').keep hle mo (fun b hb=>HK b (h.new k' b hb).2 (oldNe k' b bG hb)) (uJ k' bG) (ec k' bG)
 ·by_cases bG:k'=k
  ·subst bG;exact WP.trans (h.lent k' hk').1
  ·exact(uJ k' bG).trans (h.lent k' hk').1
theorem RealC.set_box [Flo]{X:Cfg}{s:FS}{a:Act}{w:World}{c:Cx}(h:RealC X s a w c){k T b:Nat}{cells cells':List PV}{vs vs':List Value}(hk:s.heap k= .box T cells)(hb:c.bl k=some b)(hh:w.heap[b]? =some (.cells vs.toArray T (0,0)))
 (hr:bA c w cells' vs') (h1:∀d∈cells',d.one=true):RealC X {s with heap:=cw [(k,.box T cells')] s.heap} a (w.setRow b vs'.toArray) c:=by
 have cK:(w.setRow b vs'.toArray).heap.size=w.heap.size:=by simp[ZH]
 have bG:∀b',b'≠b->(w.setRow b vs'.toArray).heap[b']? =w.heap[b']? :=by
  intro b' hb';simp only[ZH,YU];rw[af (fun e=>hb' e.symm)]
 have cu:c.block k (s.heap k)=some b:=by rw[hk];exact hb
 refine h.turn c.le_refl rfl (fun _ _=>rfl) (fun _ _=>rfl) rfl rfl rfl aa (fun b' _ hb'=>bG b' (fun e=>hb' (by rw[e];exact cu))) (fun b'=>?_) (fun b' hb'=>?_) (fun mo=>?_)
 ·exact a2a
 ·have e:c.bl k=some b':=hb';refine⟨.inl (by rw[cu,<-hb];exact e),?_⟩;rw[cK];exact(h.new k b' (by rw[cu,<-hb];exact e)).2
 ·exact .box T cells' b vs' hb (setRow_heap w b _ _ T _ hh) (hr.keep c.le_refl mo) h1
structure OneB (w w':World)(r:Option Nat):Prop where
 os:w'.os=w.os
 tape:w'.tape=w.tape
 output:w'.output=w.output
 size:w.heap.size<=w'.heap.size
 block:∀b,b < w.heap.size->r≠some b->w'.heap[b]? =w.heap[b]?
theorem RealC.set_row [Flo]{X:Cfg}{s:FS}{a:Act}{w w':World}{c:Cx}(h:RealC X s a w c){k E sz g:Nat}{rows rows':List (List PV)}{v v':Value}{xs':List Value}(hk:s.heap k= .row E sz g rows)(hv:c.ov k g=some v)
 (hg:OneB w w' (fE v)) (df:OwnV w' E sz v' rows'.length xs') (kr:fE v'=fE v\/∀b,fE v'=some b->w.heap.size<=b) (hr:bA c w rows'.flatten xs') (cK:∀r∈rows',r.length=sz)
 (h1:∀r∈rows',∀d∈r,d.one=true):
 ∃c',RealC X {s with heap:=cw [(k,.row E sz (g+1) rows')] s.heap} a w' c'/\RepP c' w' (.own k (g+1)) v':=by
 have bo:=h.chunk k;rw[hk]at bo;have Dh:v'.oneCell'=true:=df.one;cases bo with
 |row _ _ _ _ u xs hu WQ hro a0S h1o P2=>
  rw[hv]at hu;cases hu;have cu:c.block k (s.heap k)=fE v:=by rw[hk];simp[Cx.block,hv]
  have bD:(fun k' g'=>if k'=k/\g'=g+1 then some v' else c.ov k' g') k (g+1)=some v':=ah ⟨rfl,rfl⟩;have hle:c.le {M:=fun b=>(c.M b/\fE v≠some b)\/fE v'=some b,bl:=c.bl,ov:=fun k' g'=>if k'=k/\g'=g+1 then some v' else c.ov k' g'}:=
   ⟨fun _ _ h=>h,fun k' g' u hu=>by
    have:¬(k'=k/\g'=g+1):=by
     rintro⟨rfl,rfl⟩;rw[P2 (g+1) aa]at hu;cases hu
    show (if k'=k/\g'=g+1 then some v' else c.ov k' g')=some u;rw[af this];exact hu⟩
  have FB:∀b,(Cx.block {M:=fun b=>(c.M b/\fE v≠some b)\/fE v'=some b,bl:=c.bl,ov:=fun k' g'=>if k'=k/\g'=g+1 then some v' else c.ov k' g'} k (.row E sz (g+1) rows')=some b)↔fE v'=some b:=by
   intro b;simp[Cx.block]
  refine⟨{M:=fun b=>(c.M b/\fE v≠some b)\/fE v'=some b,bl:=c.bl,ov:=fun k' g'=>if k'=k/\g'=g+1 then some v' else c.ov k' g'},?_,.own k (g+1) v' bD Dh⟩;refine h.turn hle rfl (fun _ _=>rfl) (fun k' bG=>?_) hg.os hg.tape hg.output hg.size (fun b hb bG=>hg.block b hb (fun e=>bG (by rw[cu];exact e))) (fun b=>?_) (fun b hb=>?_) (fun mo=>?_)
  ·funext g';exact af (fun e=>bG e.1)
  ·rw[FB,cu]
  ·rw[FB]at hb;refine⟨?_,df.lt hb⟩;rw[cu];rcases kr with e|e
   ·exact .inl (e ▸ hb)
   ·exact .inr (e b hb)
  ·refine .row E sz (g+1) rows' v' xs' bD df (hr.keep hle mo) cK h1 (fun g' hg'=>?_);show (if k=k/\g'=g+1 then some v' else c.ov k g')=none;rw[af aa];exact P2 g' aa
theorem RealC.put_row [Flo]{X:Cfg}{s:FS}{a:Act}{w w':World}{c:Cx}(h:RealC X s a w c){k E sz g:Nat}{rows rows':List (List PV)}{v:Value}{xs':List Value}(hk:s.heap k= .row E sz g rows)(hv:c.ov k g=some v)
 (hg:OneB w w' (fE v)) (df:OwnV w' E sz v rows'.length xs') (hr:bA c w rows'.flatten xs') (cK:∀r∈rows',r.length=sz) (h1:∀r∈rows',∀d∈r,d.one=true):
 RealC X {s with heap:=cw [(k,.row E sz g rows')] s.heap} a w' c:=by
 have bo:=h.chunk k;rw[hk]at bo;cases bo with
 |row _ _ _ _ u xs hu WQ hro a0S h1o P2=>
  rw[hv]at hu;cases hu;have cu:c.block k (s.heap k)=fE v:=by rw[hk];simp[Cx.block,hv]
  have FB:c.block k (.row E sz g rows')=fE v:=by simp[Cx.block,hv]
  refine h.turn c.le_refl rfl (fun _ _=>rfl) (fun k' bG=>rfl) hg.os hg.tape hg.output hg.size (fun b hb bG=>hg.block b hb (fun e=>bG (by rw[cu];exact e))) (fun b=>?_) (fun b hb=>?_) (fun mo=>?_)
  ·rw[FB,cu];constructor
   ·intro hm;by_cases e:fE v=some b
    ·exact .inr e
    ·exact .inl ⟨hm,e⟩
   ·rintro (⟨hm,_⟩|e)
    ·exact hm
    ·exact(h.mu b).2 (.inr ⟨k,by rw[cu];exact e⟩)
  ·rw[FB]at hb;exact⟨.inl (by rw[cu];exact hb),df.lt hb⟩
  ·exact .row E sz g rows' v xs' hv df (hr.keep c.le_refl mo) cK h1 P2
structure TI where
 agg:Bool:=false
 size:Nat:=1
 bytes:Nat:=8
 zero:List Value
 fields:List (Nat × Nat):=[]
 elem:Option Nat:=none
 int:Option IntKind:=none
 kind:Nat:=0
 mp:Option (Nat × Bool):=none
 arr:Option (Nat × Nat):=none
def m7 (P:Program)(fs:List Field):Option (List (Nat × Nat)):=fs.mapM fun f=>(P.info? f.type).map fun i=>(f.offset,i.size)
def rZ (P:Program):TypeDesc->List (Nat × Nat)
 | .struct fs=>(m7 P fs.toList).getD []
 |_=>[]
def Qi:TypeDesc->Bool
 | .struct _=>true
 | .array _ _=>true
 |_=>false
def gT:TypeDesc->Option Nat
 | .slice e=>some e
 |_=>none
def Md:TypeDesc->Option (Nat × Nat)
 | .array n e=>some (n,e)
 |_=>none
def Qj:TypeDesc->Option IntKind
 | .int k=>some k
 |_=>none
def qA:TypeDesc->Nat
 | .bool=>1
 | .string=>2
 | .pointer _=>3
 | .map _ _=>4
 | .interface _=>5
 |_=>0
def mpD (P:Program):TypeDesc->Option (Nat × Bool)
 | .map k e=>match P.underlying k,P.info? k,P.underlying e with
  |some (.int .i64),_,some (.int .i64)=>some (1,false)
  |some (.struct _),some i,some (.int .i64)=>some (i.size,true)
  |_,_,_=>none
 |_=>none
def aV (P:Program)(t:Nat):Option TI:=
 match P.info? t,P.underlying t with
 |some i,some d=>
  match i.zero with
  |some z=>
   if z.cells.all (·.oneCell')&&(z.cells.size==i.size)then
    some {agg:=Qi d,size:=i.size,bytes:=i.bytes,zero:=z.cells.toList,fields:=rZ P d,elem:=gT d,int:=Qj d,kind:=qA d,mp:=mpD P d,arr:=Md d}
   else none
  |none=>none
 |_,_=>none
structure TCk (P:Program)(t:Nat)(ti:TI)(i:TypeInfo)(d:TypeDesc)(z:Value):Prop where
 info:P.info? t=some i
 und:P.underlying t=some d
 zero:i.zero=some z
 zcells:z.cells.toList=ti.zero
 one:∀x∈ti.zero,x.oneCell'=true
 zsize:ti.zero.length=ti.size
 size:i.size=ti.size
 bytes:i.bytes=ti.bytes
 agg:Qi d=ti.agg
 elem:gT d=ti.elem
 int:Qj d=ti.int
 kind:qA d=ti.kind
 mp:mpD P d=ti.mp
 arr:Md d=ti.arr
 fields:rZ P d=ti.fields
theorem iW {P:Program}{t:Nat}{ti:TI}(h:aV P t=some ti):∃i d z,TCk P t ti i d z:=by
 unfold aV at h;split at h
 ·rename_i i d hi hd;split at h
  ·rename_i z hz;split at h
   ·rename_i hc;simp only[Xv,beq_iff_eq]at hc;cases h;refine⟨i,d,z,hi,hd,hz,rfl,fun x hx=>?_,?_,rfl,rfl,rfl,rfl,rfl,rfl,rfl,rfl,rfl⟩
    ·exact(Array.all_eq_true_iff_forall_mem.1 hc.1) x (by simpa using hx)
    ·simpa using hc.2
   ·cases h
  ·cases h
 ·cases h
theorem At {P:Program}{off sz:Nat}:∀{l:List Field}{pl:List (Nat × Nat)},m7 P l=some pl->∀{f:Nat},pl[f]? =some (off,sz)->∃(g:Field) (j:TypeInfo),l[f]? =some g/\P.info? g.type=some j/\g.offset=off/\j.size=sz
 |[],pl,h,f,hf=>by simp[m7]at h;subst h;simp at hf
 |g::l,pl,h,f,hf=>by
  simp only[m7,List.mapM_cons,Option.bind_eq_bind,Option.pure_def]at h;cases hi:P.info? g.type with
  |none=>simp[hi]at h
  |some i=>
   cases hr:l.mapM (fun f=>(P.info? f.type).map fun i=>(f.offset,i.size))with
   |none=>simp[hi,hr]at h
   |some rest=>
    simp[hi,hr]at h;subst h;cases f with
    |zero=>simp at hf;exact⟨g,i,rfl,hi,hf.1,hf.2⟩
    |succ f=>simpa using At (l:=l) hr (f:=f) (by simpa using hf)
theorem TCk.field {P:Program}{t:Nat}{ti:TI}{i:TypeInfo}{d:TypeDesc}{z:Value}(h:TCk P t ti i d z){f off sz:Nat}(hf:ti.fields[f]? =some (off,sz)):
 ∃(fs:Array Field) (g:Field) (j:TypeInfo),d= .struct fs/\m7 P fs.toList=some ti.fields/\fs[f]? =some g/\P.info? g.type=some j/\g.offset=off/\j.size=sz:=by
 have ip:=h.fields;cases d with
 |struct fs=>
  simp only[rZ]at ip;cases hm:m7 P fs.toList with
  |none=>rw[hm]at ip;simp at ip;rw[ip]at hf;simp at hf
  |some pl=>
   rw[hm]at ip;simp at ip;subst ip;obtain⟨g,j,q1,q2⟩:=At hm hf;exact⟨fs,g,j,rfl,hm,by simpa using q1,q2⟩
 |_=>simp[rZ]at ip;rw[ip]at hf;simp at hf
def ev (s:FS):Operand->PV
 | .tmp t=>s.env t
 | .const v=> .d (.v v)
 | .func f=> .d (.clo f [])
 | .global _=> .any
theorem bI [Flo]{X:Cfg}{s:FS}{a:Act}{w:World}{c:Cx}(h:RealC X s a w c)(x:Operand):RepP c w (ev s x) (a.eval x):=by
 cases x with
 |tmp t=>exact h.env t
 |const v=>exact .d _ _ (.v v)
 |func f=>exact .d _ _ (.clo f [] [] rfl (fun j d x h=>by simp at h))
 |«global» g=>exact .any _
theorem BJ {ops:Array Oper}{o:Oper}{s s':FS}(he:∀t∈o.looksAt ops,s'.env t=s.env t)(x:Operand)(hx:x∈o.op.operands):ev s' x=ev s x:=by
 cases x with
 |tmp t=>
  refine he t ?_;unfold Oper.looksAt;refine ZS _ ?_;rw[List.mem_filterMap];exact⟨.tmp t,by simpa using hx,rfl⟩
 |_=>rfl
theorem d9 [Flo]{X:Cfg}{ops:Array Oper}{s:FS}{o:Oper}{r:Res}(hd:∀d,o.dst=some d->d < X.n)(ht:∀kc∈r.eff,kc.1∈r.touch)
 (h:∀s':FS,(∀x∈o.op.operands,ev s' x=ev s x)->(∀k∈r.touch,s'.heap k=s.heap k)->∀a w c,RealC X s' a w c->
  ∃n v w',(execOp a.eval o).run X.P w= .ok n w'/\(n= .value v\/(n= .skip/\v=undef))/\∃c',RealC X {s' with heap:=cw r.eff s'.heap} a w' c'/\RepP c' w' r.pv v):bH X ops s o r:=by
 refine⟨hd,ht,fun s' he hk a w hr K Q hK=>?_⟩;obtain⟨c,hc⟩:=hr;obtain⟨n,v,w',cg,hn,c',hc',hp⟩:=h s' (fun x hx=>BJ he x hx) hk a w c hc;have:=hK v w' ⟨c',hc'.put hp hd⟩;unfold Oper.wp;rw[cg];rcases hn with rfl|⟨rfl,rfl⟩
 ·exact this
 ·exact this
theorem aM [Flo]{X:Cfg}{ops:Array Oper}{s:FS}{o:Oper}{p:PV}{touch:List Nat}(hd:∀d,o.dst=some d->d < X.n)
 (h:∀s':FS,(∀x∈o.op.operands,ev s' x=ev s x)->(∀k∈touch,s'.heap k=s.heap k)->∀a w c,RealC X s' a w c->∃v,(execOp a.eval o).run X.P w= .ok (.value v) w/\RepP c w p v):
 bH X ops s o {pv:=p,touch:=touch}:=
 d9 hd (fun _ h=>by simp at h) fun s' he hk a w c hc=>by
  obtain⟨v,cg,hp⟩:=h s' he hk a w c hc;exact⟨.value v,v,w,cg,.inl rfl,c,hc,hp⟩
section
variable {X:Cfg}{ops:Array Oper}{s:FS}{o:Oper}(hd:∀d,o.dst=some d->d < X.n)
include hd
theorem Qk [Flo]{x:Operand}(ho:o.op= .move x):bH X ops s o {pv:=ev s x}:=
 aM hd fun s' he _ a w c hc=>⟨a.eval x,by simp[execOp,ho],by rw[<-he x (by simp[ho,Op.operands])];exact bI hc x⟩
theorem Jw [Flo]{x:Operand}(ho:o.op= .assign x):bH X ops s o {pv:=ev s x}:=
 aM hd fun s' he _ a w c hc=>⟨a.eval x,by simp[execOp,ho],by rw[<-he x (by simp[ho,Op.operands])];exact bI hc x⟩
omit hd in
theorem di [Flo]{s':FS}{a:Act}{w:World}{c:Cx}(hc:RealC X s' a w c){x:Operand}{v:Value}(h:ev s' x= .d (.v v)):a.eval x=v:=by
 have:=bI hc x;rw[h]at this;cases this with
 |d _ _ h=>cases h with|v=>rfl
theorem Ql [Flo]{x y z:Operand}{t:Bool}(ho:o.op= .pick x y z)(hx:ev s x= .d (.v (.bool t))):bH X ops s o {pv:=if t then ev s y else ev s z}:=
 aM hd fun s' he _ a w c hc=>by
  have h1:=di hc ((he x (by simp[ho,Op.operands])).trans hx);refine⟨if t then a.eval y else a.eval z,by simp[execOp,ho,h1,asBool],?_⟩;cases t with
  |true=>rw[ah rfl,ah rfl,<-he y (by simp[ho,Op.operands])];exact bI hc y
  |false=>rw[af ak,af ak,<-he z (by simp[ho,Op.operands])];exact bI hc z
theorem TK [Flo]{t:Nat}{x:Operand}{b:Bool}(ho:o.op= .unOp .not t x)(hx:ev s x= .d (.v (.bool b))):bH X ops s o {pv:= .d (.v (.bool (!b)))}:=
 aM hd fun s' he _ a w c hc=>by
  have h1:=di hc ((he x (by simp[ho,Op.operands])).trans hx);exact⟨.bool (!b),by simp[execOp,ho,h1,Op.unary],.d _ _ (.v _)⟩
theorem TL [Flo]{t:Nat}{x:Operand}{k:IntKind}{n:Int}(ho:o.op= .unOp .neg t x)(hx:ev s x= .d (.v (.int k n))):bH X ops s o {pv:= .d (.v (.int k (k.wrap (0 - n))))}:=
 aM hd fun s' he _ a w c hc=>by
  have h1:=di hc ((he x (by simp[ho,Op.operands])).trans hx);exact⟨.int k (k.wrap (0 - n)),by simp[execOp,ho,h1,Op.unary,Op.intArith],.d _ _ (.v _)⟩
theorem uU [Flo]{x:Operand}(ho:o.op= .nilCheck x)(hx:(∃k off,ev s x= .ptr k off)\/∃cs,ev s x= .d (.ept cs)):bH X ops s o {pv:=ev s x}:=
 aM hd fun s' he _ a w c hc=>by
  have h0:=he x (by simp[ho,Op.operands]);have h1:=bI hc x;refine⟨a.eval x,?_,by rw[<-h0];exact h1⟩;have:∃ad,a.eval x= .pointer (some ad):=by
   rcases hx with⟨k,off,hx⟩|⟨cs,hx⟩
   ·rw[h0,hx]at h1;generalize a.eval x=u at h1;cases h1;exact⟨_,rfl⟩
   ·rw[h0,hx]at h1;generalize a.eval x=u at h1;cases h1 with
    |d _ _ h=>cases h;exact⟨_,rfl⟩
  obtain⟨ad,h2⟩:=this;simp[execOp,ho,h2]
def BK (op:BinOp)(k:IntKind)(a b:Int):Option Value:=
 match op with
 | .add=>some (.int k (k.wrap (a+b)))
 | .sub=>some (.int k (k.wrap (a - b)))
 | .mul=>some (.int k (k.wrap (a*b)))
 | .eql=>some (.bool (a==b))
 | .neq=>some (.bool (a !=b))
 | .lss=>some (.bool (decide (a < b)))
 | .leq=>some (.bool (decide (a<=b)))
 | .gtr=>some (.bool (decide (a>b)))
 | .geq=>some (.bool (decide (a>=b)))
 | .shl=>if 0<=b then some (.int k (k.wrap (a*2 ^ min b.toNat k.bits)))else none
 | .shr=>if 0<=b then some (.int k (a.fdiv (2 ^ min b.toNat k.bits)))else none
 | .and=>some (.int k (k.wrap (BitVec.ofInt k.bits a&&& BitVec.ofInt k.bits b).toNat))
 | .or=>some (.int k (k.wrap (BitVec.ofInt k.bits a|||BitVec.ofInt k.bits b).toNat))
 | .andNot=>some (.int k (k.wrap (BitVec.ofInt k.bits a&&& ~~~BitVec.ofInt k.bits b).toNat))
 |_=>none
theorem TM [Flo]{op:BinOp}{t t':Nat}{x y:Operand}{k:IntKind}{m n:Int}{r:Value}(ho:o.op= .binOp op t x y t')(hx:ev s x= .d (.v (.int k m)))(hy:ev s y= .d (.v (.int k n)))(hr:BK op k m n=some r):
 bH X ops s o {pv:= .d (.v r)}:=
 aM hd fun s' he _ a w c hc=>by
  have h1:=di hc ((he x (by simp[ho,Op.operands])).trans hx);have h2:=di hc ((he y (by simp[ho,Op.operands])).trans hy);refine⟨r,?_,.d _ _ (.v _)⟩;cases op<;>simp[BK]at hr
  case shl=>obtain⟨h0,rfl⟩:=hr;simp[execOp,ho,h1,h2,eqGuard,binOp,Op.shift,Int.not_lt.2 h0]
  case shr=>obtain⟨h0,rfl⟩:=hr;simp[execOp,ho,h1,h2,eqGuard,binOp,Op.shift,Int.not_lt.2 h0]
  all_goals(subst hr;simp[execOp,ho,h1,h2,eqGuard,binOp,Op.intArith,Op.intCmp,Op.intBits])
theorem Au [Flo]{op:BinOp}{t t':Nat}{x y:Operand}{k:IntKind}{m n:Int}(ho:o.op= .binOp op t x y t')(hx:ev s x= .d (.v (.int k m)))(hy:ev s y= .d (.v (.int k n)))(hn:n≠0){r:Value}
 (hr:(op= .quo/\r= .int k (k.wrap (m.tdiv n)))\/(op= .rem/\r= .int k (m.tmod n))):bH X ops s o {pv:= .d (.v r)}:=
 aM hd fun s' he _ a w c hc=>by
  have h1:=di hc ((he x (by simp[ho,Op.operands])).trans hx);have h2:=di hc ((he y (by simp[ho,Op.operands])).trans hy);refine⟨r,?_,.d _ _ (.v _)⟩;rcases hr with⟨rfl,rfl⟩|⟨rfl,rfl⟩<;>simp[execOp,ho,h1,h2,eqGuard,binOp,Op.intDiv,hn]
omit hd in
theorem wL {P:Program}{t:Nat}(h:P.underlying t=some .bool)(m n:Bool)(w:World):(Op.equal t (.bool m) (.bool n)).run P w= .ok (m==n) w:=by
 unfold Op.equal;show (Op.equalIn (9999+1) t (.bool m) (.bool n)).run P w=_;rw[Op.equalIn,Sem.run_bind,run_underlying h];rfl
theorem Av [Flo]{ti:TI}{op:BinOp}{t t':Nat}{x y:Operand}{m n:Bool}{r:Bool}(ho:o.op= .binOp op t x y t')(ht:aV X.P t=some ti)(hb:ti.kind=1)(hx:ev s x= .d (.v (.bool m)))(hy:ev s y= .d (.v (.bool n)))(hr:(op= .eql/\r=(m==n))\/(op= .neq/\r=(m !=n))):
 bH X ops s o {pv:= .d (.v (.bool r))}:=
 aM hd fun s' he _ a w c hc=>by
  have h1:=di hc ((he x (by simp[ho,Op.operands])).trans hx);have h2:=di hc ((he y (by simp[ho,Op.operands])).trans hy);obtain⟨i,d,z,tk⟩:=iW ht;have hd':d= .bool:=by
   have:=tk.kind;rw[hb]at this;cases d<;>simp[qA]at this;rfl
  subst hd';refine⟨.bool r,?_,.d _ _ (.v _)⟩;rcases hr with⟨rfl,rfl⟩|⟨rfl,rfl⟩<;>simp[execOp,ho,h1,h2,eqGuard,binOp,wL tk.und,bne]
def Dl (P:Program)(t n:Nat):Prop:=∀(w:World) (xs ys:List Int) (x y:Operand) (op:BinOp),xs.length=n->ys.length=n->op= .eql\/op= .neq->
 (do eqGuard op t x y (.agg (xs.map (Value.int .i64)).toArray) (.agg (ys.map (Value.int .i64)).toArray);binOp op t (.agg (xs.map (Value.int .i64)).toArray) (.agg (ys.map (Value.int .i64)).toArray):Sem Value).run P w= .ok (.bool (if op= .eql then xs==ys else xs !=ys)) w
def qB:List D->Option (List Int)
 |[]=>some []
 | .v (.int .i64 n)::l=>(qB l).map (n:: ·)
 |_=>none
omit hd in
theorem r6 [Flo]{M:Nat->Prop}{w:World}:∀{ds:List D}{vs:List Value}{xs:List Int},cj M w ds vs->qB ds=some xs->vs=xs.map (Value.int .i64)
 |[],[],xs,_,h=>by cases h;rfl
 |[],_::_,xs,h,_=>by have:=h.1;simp at this
 |d::ds,[],xs,h,_=>by have:=h.1;simp at this
 |d::ds,v::vs,xs,h,hx=>by
  have h0:=h.2 0 d v rfl rfl;have hr:cj M w ds vs:=⟨by simpa using h.1,fun j a b h1 h2=>h.2 (j+1) a b (by simpa using h1) (by simpa using h2)⟩;unfold qB at hx;split at hx
  ·rename_i heq;cases heq
  ·rename_i n l heq;cases heq;cases h0;cases hl:qB ds with
   |none=>rw[hl]at hx;cases hx
   |some ys=>
    rw[hl]at hx;cases hx;rw[r6 hr hl];rfl
  ·cases hx
theorem Dm [Flo]{op:BinOp}{t t' n:Nat}{x y:Operand}{ds es:List D}{xs ys:List Int}(ho:o.op= .binOp op t x y t')(hq:Dl X.P t n)(js:op= .eql\/op= .neq)(hx:ev s x= .d (.agg ds))(hy:ev s y= .d (.agg es))
 (h1:qB ds=some xs) (h2:qB es=some ys) (h3:xs.length=n) (h4:ys.length=n):bH X ops s o {pv:= .d (.v (.bool (if op= .eql then xs==ys else xs !=ys)))}:=
 aM hd fun s' he _ a w c hc=>by
  have e1:=bI hc x;have e2:=bI hc y;rw[he x (by simp[ho,Op.operands]),hx]at e1;rw[he y (by simp[ho,Op.operands]),hy]at e2;refine⟨_,?_,.d _ _ (.v _)⟩;generalize hu:a.eval x=u at e1;generalize hv:a.eval y=v at e2;cases e1 with
  |d _ _ e1=>
   cases e2 with
   |d _ _ e2=>
    cases e1 with
    |agg _ vs hl _ aU=>
     cases e2 with
     |agg _ vs' hl' _ pX=>
      have g1:=r6 (xs:=xs) ⟨hl,aU⟩ h1;have g2:=r6 (xs:=ys) ⟨hl',pX⟩ h2;subst g1;subst g2;have:=hq w xs ys x y op h3 h4 js;simp only[execOp,ho,hu,hv];rw[Sem.run_bind,this];rfl
theorem Me [Flo]{t f off sz:Nat}{x:Operand}{ds:List D}{ti:TI}(ho:o.op= .fieldAddr t x f)(ht:aV X.P t=some ti)(hf:ti.fields[f]? =some (off,sz))(hs:sz≠0)(hx:ev s x= .d (.ept ds)):
 bH X ops s o {pv:= .d (.ept (ds.drop off))}:=
 aM hd fun s' he _ a w c hc=>by
  have e1:=bI hc x;rw[he x (by simp[ho,Op.operands]),hx]at e1;generalize hu:a.eval x=u at e1;cases e1 with
  |d _ _ e1=>
   cases e1 with
   |ept _ b o' fv hM hb h1 cf aU hz=>
    have cg:((execOp a.eval o).run X.P w)= .ok (.value (.pointer (some ⟨b,o'+off,none⟩))) w:=by
     obtain⟨i,d,z,tk⟩:=iW ht;obtain⟨fs,g,j,rfl,-,q1,q2,q3,q4⟩:=tk.field hf;have P3:j.size≠0:=aa;simp[execOp,ho,hu,Instr.fieldAt,run_underlying tk.und,q1,Instr.sureAddr,fieldPlace,sizeOf,typeInfo,q2,P3,q3,Addr.add_lit]
    refine⟨_,cg,.d _ _ (.ept _ b (o'+off) (fun j=>fv (off+j)) hM hb (fun d hd=>h1 d (Yd hd)) (fun j hj=>?_) (fun j d hj=>?_) hz)⟩
    ·rw[ZI];exact cf (off+j) (by rw[XO]at hj;omega)
    ·exact aU (off+j) d (by rwa [Yk]at hj)
end
theorem a2O {p:Prop}(h:p:=by
 intro x hx;obtain⟨j,hj,e⟩:=X7 hx;have hj':j < ds.length:=by rw[h.1];exact hj
 exact(h.2 j ds[j] x (Xj hj') (by rw[<-e];exact Xj hj)).one (h1 _ (Yl hj'))):p:=h
def aC {α:Type}(l:List α)(off:Nat)(xs:List α):List α:=l.take off++xs++l.drop (off+xs.length)
theorem jd {α:Type}{l xs:List α}{off:Nat}(h:off+xs.length<=l.length)(k:Nat):(aC l off xs)[k]? =if off<=k/\k < off+xs.length then xs[k - off]? else l[k]? :=by
 unfold aC;have h1:(l.take off).length=off:=by rw[Xo];omega
 by_cases hk:k < off
 ·rw[X3,XW aa,af aa,XP hk]
 ·by_cases jq:k < off+xs.length
  ·rw[X3,XI aa,h1,XW aa,ah aa]
  ·rw[XI (by rw[XV,h1];omega),XV,h1,Yk,af aa];congr 1;omega
theorem bt {α:Type}{l xs:List α}{off:Nat}(h:off+xs.length<=l.length):(aC l off xs).length=l.length:=by
 simp only[aC,XV,Xo,XO];omega
def p7 (off:Nat)(l:List Value)(i:Nat)(cs:Array Value):Array Value:=(l.zipIdx i).foldl (fun cs (c,j)=>cs.setIfInBounds (off+j) c) cs
theorem uV (off:Nat):∀(l:List Value) (i:Nat) (cs:Array Value) (k:Nat),off+i+l.length<=cs.size->(p7 off l i cs)[k]? =if off+i<=k/\k < off+i+l.length then l[k - (off+i)]? else cs[k]?
 |[],i,cs,k,_=>by rw[af ak];rfl
 |v::l,i,cs,k,h=>by
  have h':off+i < cs.size:=by simp at h;omega
  have:=uV off l (i+1) (cs.setIfInBounds (off+i) v) k (by simp at h ⊢;omega);have e:p7 off (v::l) i cs=p7 off l (i+1) (cs.setIfInBounds (off+i) v):=by simp[p7,List.zipIdx_cons]
  rw[e,this];by_cases hk:k=off+i
  ·subst hk;rw[af aa,ah ⟨XA _,by simp⟩];simp[h']
  ·rw[_d (fun e=>hk e.symm)];by_cases jq:off+(i+1)<=k/\k < off+(i+1)+l.length
   ·rw[ah jq,ah ⟨by omega,by simp;omega⟩];rw[show k - (off+i)=(k - (off+(i+1)))+1 by omega,Yw]
   ·rw[af jq,af aN]
theorem BL (off:Nat)(l:List Value)(cs:Array Value)(h:off+l.length<=cs.size):(p7 off l 0 cs).toList=aC cs.toList off l:=by
 apply Yg;intro k;rw[jd (by simpa using h),X6,uV off l 0 cs k (by simpa using h)];simp
theorem Aw (place:Nat->Option (Nat × Nat))(cells:Array Value)(i off size:Nat)(v:Value)(rest:List (Nat × Value))(hp:place i=some (off,size))(hs:v.cells.size=size)(ho:off+size<=cells.size):
 Instr.fill place cells ((i,v)::rest)=Instr.fill place (aC cells.toList off v.cells.toList).toArray rest:=by
 have e:(v.cells.zipIdx.foldl (fun cs (c,j)=>cs.setIfInBounds (off+j) c) cells)=(aC cells.toList off v.cells.toList).toArray:=by
  have h1:=BL off v.cells.toList cells aN;rw[<-h1,_f];unfold p7;rw[<-Array.foldl_toList,Array.toList_zipIdx]
 rw[Instr.fill];simp only[hp];rw[af (by simp[hs];omega),e]
def cF:PV->List PV
 | .d (.agg ds)=>ds.map .d
 | .agg ps=>ps
 |p=>[p]
def wM:PV->Bool
 | .d (.agg _)=>true
 | .agg _=>true
 |p=>p.one
theorem bA.one [Flo]{c:Cx}{w:World}{ds:List PV}{vs:List Value}(h:bA c w ds vs)(h1:∀d∈ds,d.one=true):∀x∈vs,x.oneCell'=true:=a2O
theorem cj.one [Flo]{M:Nat->Prop}{w:World}{ds:List D}{vs:List Value}(h:cj M w ds vs)(h1:∀d∈ds,d.one=true):∀x∈vs,x.oneCell'=true:=a2O
theorem Jy {v:Value}(h:v.oneCell'=true):v.cells=#[v]:=by
 cases v<;>first|rfl|cases h
theorem j5 [Flo]{c:Cx}{w:World}{p:PV}{v:Value}(h:RepP c w p v)(bD:wM p=true):bA c w (cF p) v.cells.toList/\∀d∈cF p,d.one=true:=by
 have single:p.one=true->cF p=[p]->bA c w (cF p) v.cells.toList/\∀d∈cF p,d.one=true:=by
  intro h1 e;rw[e,Jy (h.one h1)];refine⟨⟨rfl,fun j d x hj hx=>?_⟩,fun d hd=>by simp at hd;subst hd;exact h1⟩;cases j with
  |zero=>simp at hj hx;subst hj;subst hx;exact h
  |succ j=>simp at hj
 cases p with
 |d x=>
  cases x with
  |agg ds=>
   cases h with
   |d _ _ h=>
    cases h with
    |agg _ vs hl h1 aU=>
     refine⟨⟨by simpa[cF,Value.cells]using hl,fun j d x hj hx=>?_⟩,fun d hd=>?_⟩
     ·simp only[cF,Xr,XB]at hj;obtain⟨y,hy,rfl⟩:=hj;exact .d _ _ (aU j y x hy (by simpa[Value.cells]using hx))
     ·simp only[cF,XF]at hd;obtain⟨y,hy,rfl⟩:=hd;exact h1 y hy
  |tup ds=>simp[wM,PV.one,D.one]at bD
  |_=>exact single bD rfl
 |any=>simp[wM,PV.one]at bD
 |tup=>simp[wM,PV.one]at bD
 |agg ps=>
  cases h with
  |agg _ vs hl h1 aU=>exact⟨⟨by simpa[cF,Value.cells]using hl,fun j d x hj hx=>aU j d x hj (by simpa[Value.cells]using hx)⟩,h1⟩
 |_=>exact single bD rfl
theorem m8 [Flo]{c:Cx}{w:World}{ds es:List PV}{vs us:List Value}{off:Nat}(h:bA c w ds vs)(g:bA c w es us)(ho:off+es.length<=ds.length):bA c w (aC ds off es) (aC vs off us):=by
 have ho':off+us.length<=vs.length:=by rw[<-g.1,<-h.1];exact ho
 refine⟨by rw[bt ho,bt ho',h.1],fun j d x hj hx=>?_⟩;rw[jd ho]at hj;rw[jd ho',<-g.1]at hx;by_cases hc:off<=j/\j < off+es.length
 ·rw[ah hc]at hj hx;exact g.2 _ d x hj hx
 ·rw[af hc]at hj hx;exact h.2 _ d x hj hx
theorem lA {α:Type}{l xs:List α}{off:Nat}{d:α}(h:d∈aC l off xs):d∈l\/d∈xs:=by
 simp only[aC,X0]at h;rcases h with (h|h)|h
 ·exact .inl (Yf h)
 ·exact .inr h
 ·exact .inl (Yd h)
theorem H5 [Flo]{M:Nat->Prop}{w:World}(vs:List Value):cj M w (vs.map .v) vs:=⟨by simp,fun j d x hj hx=>by
 simp only[Xr,hx,Yb,XU.injEq]at hj;subst hj;exact .v x⟩
theorem p8 [Flo]{c:Cx}{w:World}{ds:List D}{vs:List Value}(h:cj c.M w ds vs):bA c w (ds.map .d) vs:=⟨by simpa using h.1,fun j d x hj hx=>by
 simp only[Xr,XB]at hj;obtain⟨y,hy,rfl⟩:=hj;exact .d _ _ (h.2 j y x hy hx)⟩
def wN:List PV->Option (List D)
 |[]=>some []
 | .d x::l=>(wN l).map (x:: ·)
 |_=>none
theorem r7:∀{l:List PV}{ds:List D},wN l=some ds->l=ds.map .d
 |[],ds,h=>by simp[wN]at h;subst h;rfl
 |p::l,ds,h=>by
  unfold wN at h;split at h
  ·rename_i heq;cases heq
  ·rename_i x l' heq;cases heq;cases hl:wN l with
   |none=>rw[hl]at h;cases h
   |some es=>
    rw[hl]at h;cases h;rw[r7 hl];rfl
  ·cases h
def tO (l:List PV):PV:=match wN l with|some ds=> .d (.agg ds)|none=> .agg l
def Mf (l:List PV):PV:=match wN l with|some ds=> .d (.tup ds)|none=> .tup l
theorem Dn [Flo]{c:Cx}{w:World}{ds:List D}{vs:List Value}(h:bA c w (ds.map .d) vs):cj c.M w ds vs:=⟨by simpa using h.1,fun j d x hj hx=>by
 have:=h.2 j (.d d) x (by rw[Xr,hj];rfl) hx;cases this with|d _ _ h=>exact h⟩
theorem r8 [Flo]{c:Cx}{w:World}{l:List PV}{vs:List Value}(h:bA c w l vs)(h1:∀d∈l,d.one=true):RepP c w (tO l) (.agg vs.toArray):=by
 unfold tO;split
 ·rename_i ds fD;have e:=r7 fD;subst e;have:=Dn h;exact .d _ _ (.agg ds vs this.1 (fun d hd=>h1 (.d d) (Y7 hd)) this.2)
 ·exact .agg l vs h.1 h1 h.2
theorem Mg [Flo]{c:Cx}{w:World}{l:List PV}{vs:List Value}(h:bA c w l vs):RepP c w (Mf l) (.tuple vs.toArray):=by
 unfold Mf;split
 ·rename_i ds fD;have e:=r7 fD;subst e;have:=Dn h;exact .d _ _ (.tup ds vs this.1 this.2)
 ·exact .tup l vs h.1 h.2
def qC {α:Type}(pl:List (Nat × Nat)):List α->List (Nat × List α)->Option (List α)
 |cells,[]=>some cells
 |cells,(i,xs)::rest=>
  match pl[i]? with
  |none=>none
  |some (off,size)=>if xs.length=size/\off+size<=cells.length then qC pl (aC cells off xs) rest else none
theorem Do [Flo]{c:Cx}{w:World}(pl:List (Nat × Nat))(place:Nat->Option (Nat × Nat))(gz:∀i p,pl[i]? =some p->place i=some p):∀(pd:List (Nat × List PV)) (pv:List (Nat × Value)) (cells:List PV) (vs:List Value) (out:List PV),bA c w cells vs->
 pd.map (·.1)=pv.map (·.1)->(∀(j:Nat) (d:Nat × List PV) (x:Nat × Value),pd[j]? =some d->pv[j]? =some x->bA c w d.2 x.2.cells.toList)->qC pl cells pd=some out->(∀d∈cells,d.one=true)->(∀q∈pd,∀d∈q.2,d.one=true)->
 ∃vs':List Value,Instr.fill place vs.toArray pv=some vs'.toArray/\bA c w out vs'/\(∀d∈out,d.one=true)/\out.length=cells.length
 |[],[],cells,vs,out,h,_,_,hf,h1,_=>by
  simp[qC]at hf;subst hf;exact⟨vs,rfl,h,h1,rfl⟩
 |[],_::_,_,_,_,_,hm,_,_,_,_=>by simp at hm
 |_::_,[],_,_,_,_,hm,_,_,_,_=>by simp at hm
 |(i,xs)::pd,(i',v)::pv,cells,vs,out,h,hm,hr,hf,h1,h2=>by
  simp only[Xl,List.cons.injEq]at hm;obtain⟨rfl,hm⟩:=hm;have hx:=hr 0 (i,xs) (i,v) rfl rfl;unfold qC at hf;split at hf
  ·cases hf
  ·rename_i off size hp;split at hf
   ·rename_i hc;have gS:v.cells.size=size:=by have:=hx.1;simp at this;omega
    have bP:off+xs.length<=cells.length:=aa;rw[Aw place vs.toArray i off size v pv (gz i _ hp) gS (by have:=h.1;simp;omega)];obtain⟨vs',q1,q2,q3,q4⟩:=Do pl place gz pd pv (aC cells off xs) (aC vs off v.cells.toList) out (m8 h hx bP) hm (fun j d x hj hx=>hr (j+1) d x (by simpa using hj) (by simpa using hx)) hf
     (fun d hd=>(lA hd).elim (h1 d) (h2 (i,xs) ak d)) (fun q hq=>h2 q (by simp[hq]))
    exact⟨vs',q1,q2,q3,by rw[q4,bt bP]⟩
   ·cases hf
theorem a1V {p:Prop}(h:p:=by
 have:=tk.elem;rw[he']at this;cases d<;>simp[gT]at this;rw[this]):p:=h
theorem a2T {p:Prop}(h:p:=by
 rw[ho];simp only[Op.operands,_m,XF];exact⟨(i,y),by simpa using Z8 hy,rfl⟩):p:=h
theorem a3m {p:Prop}(h:p:=by
 have:=tk.elem;rw[he']at this;cases dd<;>simp[gT]at this;rw[this]):p:=h
theorem a4H {p:Prop}(h:p:=by
  rw[mz,YN aa];simp only[ZF,p'];rw[Xj aa]at hv;simpa using hv):p:=h
theorem a4I {p:Prop}(h:p:=by
 have:=p8 (c:=c) (H5 (M:=c.M) (w:=w) ti.zero);rwa [Z4]at this):p:=h
theorem ck [Flo]{c:Cx}{w:World}{d:D}{v:Value}(h:RepP c w (.d d) v):RepD c.M w d v:=by
 cases h with|d _ _ h=>exact h
theorem cA {α:Type}{sz:Nat}:∀{rows:List (List α)},(∀r∈rows,r.length=sz)->∀i j,j < sz->rows.flatten[i*sz+j]? =(rows[i]?).bind (·[j]?)
 |[],_,i,j,_=>by simp
 |r::rows,h,0,j,hj=>by
  rw[YR,XW (by rw[h r ak];omega)];simp
 |r::rows,h,i+1,j,hj=>by
  have hr:=h r ak;rw[YR,XI (by rw[hr,YX];omega),hr,show (i+1)*sz+j - sz=i*sz+j by rw[YX];omega,cA (fun r hr=>h r (by simp[hr])) i j hj];simp
section
variable {X:Cfg}{ops:Array Oper}{s:FS}{o:Oper}(hd:∀d,o.dst=some d->d < X.n)
include hd
theorem Dp [Flo]{t f off sz k o':Nat}{x:Operand}{ti:TI}(ho:o.op= .fieldAddr t x f)(ht:aV X.P t=some ti)(hf:ti.fields[f]? =some (off,sz))(hs:sz≠0)(hx:ev s x= .ptr k o'):
 bH X ops s o {pv:= .ptr k (o'+off)}:=
 aM hd fun s' he _ a w c hc=>by
  have e1:=bI hc x;rw[he x (by simp[ho,Op.operands]),hx]at e1;generalize hu:a.eval x=u at e1;cases e1 with
  |ptr _ _ b hb=>
   obtain⟨i,d,z,tk⟩:=iW ht;obtain⟨fs,g,j,rfl,-,q1,q2,q3,q4⟩:=tk.field hf;have P3:j.size≠0:=aa;exact⟨.pointer (some ⟨b,o'+off,none⟩),by simp[execOp,ho,hu,Instr.fieldAt,run_underlying tk.und,q1,Instr.sureAddr,fieldPlace,sizeOf,typeInfo,q2,P3,q3,Addr.add_lit],.ptr k _ b hb⟩
omit hd in
theorem nU {P:Program}{t:Nat}{ti:TI}(ht:aV P t=some ti)(w:World)(b off:Nat)(cs:List Value)(hl:cs.length=ti.size)(fP:∀j v,cs[j]? =some v->w.cell? ⟨b,off+j,none⟩=some v)(h0:ti.agg=false->∃v,cs=[v]):
 (Instr.loadAt t (.pointer (some ⟨b,off,none⟩))).run P w= .ok (if ti.agg then .agg cs.toArray else cs.headD undef) w:=by
 obtain⟨i,d,z,tk⟩:=iW ht;have Ly:(isAgg t).run P w= .ok ti.agg w:=by
  unfold isAgg;rw[Sem.run_bind,run_underlying tk.und w,<-tk.agg];cases d<;>simp[Qi]
 have cf:∀j v,cs[j]? =some v->w.cell? ((⟨b,off,none⟩:Addr).add j)=some v:=fun j v hv=>by rw[Addr.add_lit];exact fP j v hv
 cases hg:ti.agg with
 |true=>
  have hl':=run_loadCells_list (P:=P) w ⟨b,off,none⟩ cs cf;rw[hl,<-tk.size]at hl';rw[hg]at Ly;simp[Instr.loadAt,Instr.sureAddr,loadVar,Sem.run_bind,Ly,sizeOf,typeInfo,tk.info,hl']
 |false=>
  obtain⟨v,rfl⟩:=h0 hg;rw[hg]at Ly;have:=fP 0 v rfl;simp only[XG]at this;simp[Instr.loadAt,Instr.sureAddr,loadVar,Sem.run_bind,Ly,this]
theorem Dq [Flo]{t:Nat}{x:Operand}{ti:TI}{ds:List D}{p:D}(ho:o.op= .load t x)(ht:aV X.P t=some ti)(hx:ev s x= .d (.ept ds))(cK:ti.size<=ds.length)(hp:(ti.agg=true/\p= .agg (ds.take ti.size))\/(ti.agg=false/\ti.size=1/\ds[0]? =some p)):
 bH X ops s o {pv:= .d p}:=
 aM hd fun s' he _ a w c hc=>by
  have e1:=bI hc x;rw[he x (by simp[ho,Op.operands]),hx]at e1;generalize hu:a.eval x=u at e1;cases e1 with
  |d _ _ e1=>
   cases e1 with
   |ept _ b off f hM hb h1 cf aU=>
    have cg:=nU ht w b off ((X4 ti.size).map f) ak (fun j v hj=>by
     simp only[Xr,XB]at hj;obtain⟨y,hy,rfl⟩:=hj;have:=ZZ (n:=ti.size) (i:=j);have hj':j < ti.size:=by
      rcases XL j ti.size with h|h
      ·exact h
      ·rw[XN (by simpa using h)]at hy;cases hy
     rw[ZZ hj']at hy;cases hy;exact cf j aa)
    rcases hp with⟨qr,rfl⟩|⟨qr,mz,hp⟩
    ·refine⟨.agg ((X4 ti.size).map f).toArray,?_,.d _ _ (.agg _ _ aN (fun d hd=>h1 d (Yf hd)) (fun j d v hj hv=>?_))⟩
     ·have:=cg (fun h=>by rw[qr]at h;cases h);rw[qr,ah rfl]at this;simp only[execOp,ho,hu];rw[Sem.run_bind,this];rfl
     ·rw[Zi]at hj;split at hj
      ·rename_i hlt;simp only[Xr,ZZ hlt,Yb,XU.injEq]at hv;subst hv;exact aU j d hj
      ·cases hj
    ·refine⟨f 0,?_,.d _ _ (aU 0 p hp)⟩;have:=cg (fun _=>⟨f 0,by rw[mz];rfl⟩);rw[qr,mz]at this;simp only[execOp,ho,hu];rw[Sem.run_bind,this];rfl
omit hd in
theorem eX {α:Type}{l:List α}{off n j:Nat}{x:α}(h:((l.drop off).take n)[j]? =some x):j < n/\l[off+j]? =some x:=by
 rw[Zi]at h;split at h
 ·rename_i hlt;rw[Yk]at h;exact⟨hlt,h⟩
 ·cases h
omit hd in
theorem bA.part [Flo]{c:Cx}{w:World}{l:List PV}{vs:List Value}(h:bA c w l vs)(off n:Nat):bA c w ((l.drop off).take n) ((vs.drop off).take n):=
 ⟨by rw[Xo,Xo,XO,XO,h.1],fun j d x hj hx=>h.2 _ d x (eX hj).2 (eX hx).2⟩
theorem Dr [Flo]{t k off T:Nat}{x:Operand}{ti:TI}{cells:List PV}{p:PV}(ho:o.op= .load t x)(ht:aV X.P t=some ti)(hx:ev s x= .ptr k off)(hk:s.heap k= .box T cells)(cK:off+ti.size<=cells.length)
 (hp:(ti.agg=true/\p=tO ((cells.drop off).take ti.size))\/(ti.agg=false/\ti.size=1/\cells[off]? =some p)):bH X ops s o {pv:=p,touch:=[k]}:=
 aM hd fun s' he iH a w c hc=>by
  have e1:=bI hc x;rw[he x (by simp[ho,Op.operands]),hx]at e1;generalize hu:a.eval x=u at e1;have bo:=hc.chunk k;rw[iH k ak,hk]at bo;cases e1 with
  |ptr _ _ b hb=>
   cases bo with
   |box _ _ b' vs hb' hh hr h1=>
    rw[hb]at hb';cases hb';have Sv:vs.length=cells.length:=hr.1.symm;have cg:=nU ht w b off ((vs.drop off).take ti.size) (by rw[Xo,XO];omega) (fun j v hj=>by
     simp[YL,hh,(eX hj).2])
    rcases hp with⟨qr,rfl⟩|⟨qr,mz,hp⟩
    ·refine⟨.agg ((vs.drop off).take ti.size).toArray,?_,r8 (hr.part off ti.size) (fun d hd=>h1 d (Yd (Yf hd)))⟩;have:=cg (fun h=>by rw[qr]at h;cases h);rw[qr,ah rfl]at this;simp only[execOp,ho,hu];rw[Sem.run_bind,this];rfl
    ·obtain⟨v,hv⟩:∃v,vs[off]? =some v:=⟨vs[off]'(by omega),Xj _⟩;have eO:(vs.drop off).take ti.size=[v]:=a4H
     refine⟨v,?_,hr.2 off p v hp hv⟩;have:=cg (fun _=>⟨v,eO⟩);rw[qr,eO]at this;simp only[execOp,ho,hu];rw[Sem.run_bind,this];rfl
theorem Mh [Flo]{t e sz:Nat}{x y:Operand}{ti te:TI}{rows:List (List D)}{row:List D}{kd:IntKind}{n:Int}(ho:o.op= .indexAddr t x y)(ht:aV X.P t=some ti)(he':ti.elem=some e)(iD:aV X.P e=some te)(cK:te.size=sz)
 (hx:ev s x= .d (.sl sz rows)) (hy:ev s y= .d (.v (.int kd n))) (hn:0<=n) (b9:rows[n.toNat]? =some row):bH X ops s o {pv:= .d (.ept row)}:=
 aM hd fun s' he _ a w c hc=>by
  have e1:=bI hc x;rw[he x (by simp[ho,Op.operands]),hx]at e1;have e2:=di hc ((he y (by simp[ho,Op.operands])).trans hy);generalize hu:a.eval x=u at e1;have hlt:n.toNat < rows.length:=(Xm.1 b9).1;have e1:=ck e1;cases e1 with
  |nil=>simp at hlt
  |sl _ _ b off cap f hM hb hc' hm hr h1 cf aU hz=>
   obtain⟨i,d,z,tk⟩:=iW ht;obtain⟨ie,de,ze,tke⟩:=iW iD;have lg:d= .slice e:=a1V
   subst lg;have tz:0<=n/\n < (rows.length:Int):=⟨hn,by omega⟩;have By:row.length=sz:=hr row (Xk b9);refine⟨.pointer (some ⟨b,off+n.toNat*sz,none⟩),?_,.d _ _ (.ept row b _ (fun j=>f n.toNat j) hM hb (fun d hd=>h1 row (Xk b9) d hd) (fun j hj=>cf _ j hlt aa) (fun j d hj=>aU _ j row d b9 hj) hz)⟩;simp[execOp,ho,hu,e2,Instr.indexAt,asIntOf,run_underlying tk.und,tz,sizeOf,typeInfo,tke.info,tke.size,cK,Addr.add_lit]
theorem Mi [Flo]{t ty:Nat}{x:Operand}{e:Nat}{ti:TI}{d:D}{n:Nat}(ho:o.op= .call {callee:= .builtin .len,args:=#[x],argTypes:=#[t]})(ht:aV X.P t=some ti)(he':ti.elem=some e)(hx:ev s x= .d d)
 (hn:(∃sz rows,d= .sl sz rows/\n=rows.length)\/(d= .v (.slice none 0 0)/\n=0)):bH X ops s o {pv:= .d (.v (.int .i64 n))}:=
 aM hd fun s' he _ a w c hc=>by
  have e1:=bI hc x;rw[he x (by simp[ho,Op.operands,Call.operands]),hx]at e1;generalize hu:a.eval x=u at e1;obtain⟨i,dd,z,tk⟩:=iW ht;have lg:dd= .slice e:=a3m
  subst lg;have rS:∃ao cap,u= .slice ao n cap:=by
   have e1:=ck e1;rcases hn with⟨sz,rows,rfl,rfl⟩|⟨rfl,rfl⟩
   ·cases e1 with
    |nil _ ao cap=>exact⟨ao,cap,rfl⟩
    |sl _ _ b off cap=>exact⟨_,cap,rfl⟩
   ·cases e1;exact⟨none,0,rfl⟩
  obtain⟨ao,cap,rfl⟩:=rS;refine⟨.int .i64 n,?_,.d _ _ (.v _)⟩;simp[execOp,ho,hu,resolve,invoke,builtin,Builtin.len_,run_underlying tk.und,goInt]
theorem Gg [Flo]{x:Operand}{i:Nat}{ds:List D}{d:D}(ho:o.op= .extract x i)(hx:ev s x= .d (.tup ds))(hi:ds[i]? =some d):bH X ops s o {pv:= .d d}:=
 aM hd fun s' he _ a w c hc=>by
  have e1:=bI hc x;rw[he x (by simp[ho,Op.operands]),hx]at e1;generalize hu:a.eval x=u at e1;have e1:=ck e1;cases e1 with
  |tup _ vs hl aU=>
   have hlt:i < vs.length:=by rw[<-hl];exact(Xm.1 hi).1
   have hv:vs[i]? =some vs[i]:=Xj hlt;exact⟨vs[i],by simp[execOp,ho,hu,Instr.extract,hv],.d _ _ (aU i d _ hi hv)⟩
theorem Ds [Flo]{x:Operand}{i:Nat}{ds:List PV}{d:PV}(ho:o.op= .extract x i)(hx:ev s x= .tup ds)(hi:ds[i]? =some d):bH X ops s o {pv:=d}:=
 aM hd fun s' he _ a w c hc=>by
  have e1:=bI hc x;rw[he x (by simp[ho,Op.operands]),hx]at e1;generalize hu:a.eval x=u at e1;cases e1 with
  |tup _ vs hl aU=>
   have hlt:i < vs.length:=by rw[<-hl];exact(Xm.1 hi).1
   have hv:vs[i]? =some vs[i]:=Xj hlt;exact⟨vs[i],by simp[execOp,ho,hu,Instr.extract,hv],aU i d _ hi hv⟩
theorem Ax [Flo]{t:Nat}{pl:List (Nat × Nat)}{place:Nat->Option (Nat × Nat)}{parts:Array (Nat × Operand)}{ti:TI}{pd:List (Nat × List PV)}{out:List PV}(ho:o.op= .build t parts)(ht:aV X.P t=some ti)(gz:∀i p,pl[i]? =some p->place i=some p)(hbt:∀ps,X.P.built t ps=Instr.fill place ti.zero.toArray ps)
 (hp:pd.length=parts.size) (hq:∀(j:Nat) (i:Nat) (x:Operand),parts[j]? =some (i,x)->pd[j]? =some (i,cF (ev s x))/\wM (ev s x)=true) (hf:qC pl (ti.zero.map fun x=> .d (.v x)) pd=some out):
 bH X ops s o {pv:=tO out}:=
 aM hd fun s' he _ a w c hc=>by
  obtain⟨i,d,z,tk⟩:=iW ht;have Lz:bA c w (ti.zero.map fun x=> .d (.v x)) ti.zero:=a4I
  have WR:∀d∈ti.zero.map (fun x=>PV.d (.v x)),d.one=true:=by
   intro d hd;obtain⟨x,hx,rfl⟩:=XF.1 hd;exact tk.one x hx
  have oQ:∀(j:Nat) (d:Nat × List PV) (x:Nat × Value),pd[j]? =some d->(parts.toList.map fun(i,x)=>(i,a.eval x))[j]? =some x->d.1=x.1/\bA c w d.2 x.2.cells.toList/\∀e∈d.2,e.one=true:=by
   intro j d x hj hx;simp only[Xr,X6,XB]at hx;obtain⟨⟨i,y⟩,hy,rfl⟩:=hx;obtain⟨h1,h3⟩:=hq j i y hy;rw[hj]at h1;cases h1;have gA:y∈o.op.operands:=a2T
   have aU:=bI hc y;rw[he y gA]at aU;rw[<-he y gA]at h3;have:=j5 (bI hc y) h3;rw[he y gA]at this;exact⟨rfl,this⟩
  obtain⟨vs',q1,q2,q3,q4⟩:=Do (c:=c) (w:=w) pl place gz pd (parts.toList.map fun(i,x)=>(i,a.eval x)) (ti.zero.map fun x=> .d (.v x)) ti.zero out Lz
   (by
    apply Yg;intro j;simp only[Xr];cases hj:parts[j]? with
    |none=>
     have h1:parts.size<=j:=by simpa using hj
     rw[XN aa];simp[hj]
    |some ix=>
     obtain⟨i,x⟩:=ix;obtain⟨h1,-⟩:=hq j i x hj;simp[hj,h1])
   (fun j d x h1 h2=>(oQ j d x h1 h2).2.1) hf WR
   (fun q hq' e he'=>by
    obtain⟨j,hj,hjq⟩:=X7 hq';have hjs:j < parts.toList.length:=by simpa using hp ▸ hj
    exact(oQ j q _ (by rw[<-hjq];exact Xj hj) (by rw[Xr,Xj hjs];rfl)).2.2 e he')
  refine⟨.agg vs'.toArray,?_,r8 q2 q3⟩;have hb:X.P.built t (parts.map fun(i,x)=>(i,a.eval x)).toList=some vs'.toArray:=by
   rw[hbt,F'];exact q1
  have:=run_build w t (parts.map fun(i,x)=>(i,a.eval x)) vs'.toArray hb;simp only[execOp,ho];rw[Sem.run_bind,this];rfl
theorem Mk [Flo]{t:Nat}{parts:Array (Nat × Operand)}{ti:TI}{pd:List (Nat × List PV)}{out:List PV}(ho:o.op= .build t parts)(ht:aV X.P t=some ti)(dN:ti.fields≠[])
 (hp:pd.length=parts.size) (hq:∀(j:Nat) (i:Nat) (x:Operand),parts[j]? =some (i,x)->pd[j]? =some (i,cF (ev s x))/\wM (ev s x)=true) (hf:qC ti.fields (ti.zero.map fun x=> .d (.v x)) pd=some out):
 bH X ops s o {pv:=tO out}:=
 by
  obtain⟨i,d,z,tk⟩:=iW ht;obtain⟨⟨off,sz⟩,rest,ip⟩:∃p l,ti.fields=p::l:=by
   cases h:ti.fields with
   |nil=>exact absurd h dN
   |cons p l=>exact⟨p,l,rfl⟩
  obtain⟨fs,g,j,rfl,gz,-⟩:=tk.field (f:=0) (off:=off) (sz:=sz) (by rw[ip];rfl);refine Ax hd ho ht (pl:=ti.fields) (place:=(ti.fields.toArray[·]?)) (fun i p h=>by simpa using h) (fun ps=>?_) hp hq hf;unfold Program.built;have a0T:fs.toList.mapM (fun f=>(X.P.info? f.type).map fun i=>(f.offset,i.size))=some ti.fields:=gz;have:z.cells=ti.zero.toArray:=by rw[<-tk.zcells]
  simp only[tk.info,tk.und,tk.zero,a0T,this]
theorem Dt [Flo]{g:Nat}{caps:Array Operand}(ho:o.op= .makeFunc (.func g) #[] caps):bH X ops s o {pv:= .clo g (caps.toList.map (ev s))}:=
 aM hd fun s' he _ a w c hc=>by
  refine⟨.func (.func g) #[] (caps.toList.map a.eval).toArray,?_,.clo g _ _ ak (fun j d x hj hx=>?_)⟩
  ·have:(caps.toList.map a.eval).toArray=caps.map a.eval:=by rw[<-F']
   rw[this];simp[execOp,ho,Instr.makeFunc]
  ·simp only[Xr,X6,XB]at hj hx;obtain⟨y,hy,rfl⟩:=hj;obtain⟨y',hy',rfl⟩:=hx;rw[hy]at hy';cases hy';have:=bI hc y;rwa [he y (by rw[ho];simp[Op.operands,Z8 hy])]at this
theorem Gh [Flo]{t f off sz k g sz' i j:Nat}{x:Operand}{ti:TI}(ho:o.op= .fieldAddr t x f)(ht:aV X.P t=some ti)(hf:ti.fields[f]? =some (off,sz))(hs:sz≠0)(hx:ev s x= .rp k g sz' i j):
 bH X ops s o {pv:= .rp k g sz' i (j+off)}:=
 aM hd fun s' he _ a w c hc=>by
  have e1:=bI hc x;rw[he x (by simp[ho,Op.operands]),hx]at e1;generalize hu:a.eval x=u at e1;cases e1 with
  |rp _ _ _ _ _ b n cap hb=>
   obtain⟨ii,d,z,tk⟩:=iW ht;obtain⟨fs,g,jj,rfl,-,q1,q2,q3,q4⟩:=tk.field hf;have P3:jj.size≠0:=aa;exact⟨.pointer (some ⟨b,i*sz'+(j+off),none⟩),by simp[execOp,ho,hu,Instr.fieldAt,run_underlying tk.und,q1,Instr.sureAddr,fieldPlace,sizeOf,typeInfo,q2,P3,q3,Addr.add_lit,ZI],.rp k _ _ _ _ b n cap hb⟩
omit hd in
theorem eB [Flo]{k E sz g:Nat}{rows:List (List PV)}{c:Cx}{w:World}{b n cap:Nat}(bo:ChunkOK c w k (.row E sz g rows))(hb:c.ov k g=some (.slice (some ⟨b,0,none⟩) n cap))(b9:rows≠[]):
 ∃(cur:Array Value) (xs:List Value),w.heap[b]? =some (.cells cur E (0,0))/\bA c w rows.flatten xs/\xs.length=rows.length*sz/\(∀j,j < rows.length*sz->cur[j]? =xs[j]?)/\(∀r∈rows,r.length=sz)/\(∀r∈rows,∀d∈r,d.one=true)/\n=rows.length/\rows.length*sz<=cur.size/\
  cap<=maxLen/\n<=cap/\cur.size=cap*sz:=by
 cases bo with
 |row _ _ _ _ u xs hu df hr cK h1 hg=>
  rw[hb]at hu;cases hu;generalize hn:rows.length=n' at df;cases df with
  |zero a=>exact absurd (X9 hn) b9
  |row _ _ _ cur _ h0 hh LX hm hs hl ht=>
   refine⟨cur,xs,hh,hr,hl,fun j hj=>?_,cK,h1,rfl,?_,hm,LX,hs⟩
   ·rw[<-ht,XP hj,X6]
   ·rw[hs];exact Yt sz LX
omit hd in
theorem m9 [Flo]{k E sz g:Nat}{rows:List (List PV)}{c:Cx}{w:World}{v:Value}(bo:ChunkOK c w k (.row E sz g rows))(ec:c.ov k g=some v)(b9:rows≠[]):∃b cap,v= .slice (some ⟨b,0,none⟩) rows.length cap:=by
 cases bo with
 |row _ _ _ _ u xs hu df hr cK h1 hg=>
  rw[ec]at hu;cases hu;generalize hn:rows.length=n' at df;cases df with
  |nil=>exact absurd (X9 hn) b9
  |zero a=>exact absurd (X9 hn) b9
  |row b n cap=>exact⟨b,cap,rfl⟩
theorem Du [Flo]{t e k g sz:Nat}{x y:Operand}{ti te:TI}{rows:List (List PV)}{kd:IntKind}{n:Int}(ho:o.op= .indexAddr t x y)(ht:aV X.P t=some ti)(he':ti.elem=some e)(iD:aV X.P e=some te)(cK:te.size=sz)
 (hx:ev s x= .own k g) (hk:s.heap k= .row e sz g rows) (hy:ev s y= .d (.v (.int kd n))) (hn:0<=n) (hlt:n.toNat < rows.length):bH X ops s o {pv:= .rp k g sz n.toNat 0,touch:=[k]}:=
 aM hd fun s' he iH a w c hc=>by
  have e1:=bI hc x;rw[he x (by simp[ho,Op.operands]),hx]at e1;have e2:=di hc ((he y (by simp[ho,Op.operands])).trans hy);have bo:=hc.chunk k;rw[iH k ak,hk]at bo;generalize hu:a.eval x=u at e1;obtain⟨i,d,z,tk⟩:=iW ht;obtain⟨ie,de,ze,tke⟩:=iW iD;have lg:d= .slice e:=a1V
  subst lg;cases e1 with
  |own _ _ _ ec h1=>
   obtain⟨gb,cap,rfl⟩:=m9 bo ec (fun e=>by rw[e]at hlt;simp at hlt);have tz:0<=n/\n < (rows.length:Int):=⟨hn,by omega⟩;refine⟨.pointer (some ⟨gb,n.toNat*sz+0,none⟩),?_,.rp k g sz _ _ gb _ cap ec⟩;simp[execOp,ho,hu,e2,Instr.indexAt,asIntOf,run_underlying tk.und,tz,sizeOf,typeInfo,tke.info,tke.size,cK,Addr.add_lit]
omit hd in
theorem Dv [Flo]{sz i:Nat}{rows:List (List PV)}{row:List PV}{c:Cx}{w:World}{xs:List Value}(h:bA c w rows.flatten xs)(cK:∀r∈rows,r.length=sz)(b9:rows[i]? =some row)(hl:xs.length=rows.length*sz):bA c w row ((xs.drop (i*sz)).take sz):=by
 have hi:i < rows.length:=(Xm.1 b9).1;have By:row.length=sz:=cK row (Xk b9);have CR:(i+1)*sz<=rows.length*sz:=Yt sz hi;rw[YX]at CR;refine⟨by rw[Xo,XO];omega,fun j d x hj hx=>?_⟩;obtain⟨hlt,hx⟩:=eX hx;exact h.2 _ d x (by rw[cA cK i j hlt,b9];exact hj) hx
theorem Ay [Flo]{t k g sz i j E:Nat}{x:Operand}{ti:TI}{rows:List (List PV)}{row:List PV}{p:PV}(ho:o.op= .load t x)(ht:aV X.P t=some ti)(hx:ev s x= .rp k g sz i j)(hk:s.heap k= .row E sz g rows)(b9:rows[i]? =some row)(cK:j+ti.size<=sz)
 (hp:(ti.agg=true/\p=tO ((row.drop j).take ti.size))\/(ti.agg=false/\ti.size=1/\row[j]? =some p)):bH X ops s o {pv:=p,touch:=[k]}:=
 aM hd fun s' he iH a w c hc=>by
  have e1:=bI hc x;rw[he x (by simp[ho,Op.operands]),hx]at e1;have bo:=hc.chunk k;rw[iH k ak,hk]at bo;generalize hu:a.eval x=u at e1;cases e1 with
  |rp _ _ _ _ _ b n cap hb=>
   obtain⟨cur,xs,q1,q2,q3,q4,q5,q6,q7,q8,-⟩:=eB bo hb (fun e=>by rw[e]at b9;cases b9);have hi:i < rows.length:=(Xm.1 b9).1;have By:row.length=sz:=q5 row (Xk b9);have CR:(i+1)*sz<=rows.length*sz:=Yt sz hi;rw[YX]at CR;have oQ:=Dv q2 q5 b9 q3;generalize LB:(xs.drop (i*sz)).take sz=ys at oQ;have tB:ys.length=sz:=by rw[<-oQ.1,By]
   have cf:∀j' v,ys[j']? =some v->cur[i*sz+j']? =some v:=by
    intro j' v hj';rw[<-LB]at hj';obtain⟨hlt,hj'⟩:=eX hj';rw[q4 _ aa,hj']
   have cg:=nU ht w b (i*sz+j) ((ys.drop j).take ti.size) (by rw[Xo,XO];omega) (fun j' v hj'=>by
    have:=cf _ v (eX hj').2;simp only[YL,q1];rw[ZI,this];simp)
   rcases hp with⟨qr,rfl⟩|⟨qr,mz,hp⟩
   ·refine⟨.agg ((ys.drop j).take ti.size).toArray,?_,r8 (oQ.part j ti.size) (fun d hd=>q6 row (Xk b9) d (Yd (Yf hd)))⟩;have:=cg (fun h=>by rw[qr]at h;cases h);rw[qr,ah rfl]at this;simp only[execOp,ho,hu];rw[Sem.run_bind,this];rfl
   ·obtain⟨v,hv⟩:∃v,ys[j]? =some v:=⟨ys[j]'(by omega),Xj _⟩;have eO:(ys.drop j).take ti.size=[v]:=a4H
    refine⟨v,?_,oQ.2 j p v hp hv⟩;have:=cg (fun _=>⟨v,eO⟩);rw[qr,eO]at this;simp only[execOp,ho,hu];rw[Sem.run_bind,this];rfl
theorem Jz [Flo]{t k g sz E:Nat}{x:Operand}{e:Nat}{ti:TI}{rows:List (List PV)}(ho:o.op= .call {callee:= .builtin .len,args:=#[x],argTypes:=#[t]})(ht:aV X.P t=some ti)(he':ti.elem=some e)(hx:ev s x= .own k g)(hk:s.heap k= .row E sz g rows):
 bH X ops s o {pv:= .d (.v (.int .i64 rows.length)),touch:=[k]}:=
 aM hd fun s' he iH a w c hc=>by
  have e1:=bI hc x;rw[he x (by simp[ho,Op.operands,Call.operands]),hx]at e1;have bo:=hc.chunk k;rw[iH k ak,hk]at bo;generalize hu:a.eval x=u at e1;obtain⟨i,dd,z,tk⟩:=iW ht;have lg:dd= .slice e:=a3m
  subst lg;cases e1 with
  |own _ _ _ ec h1=>
   cases bo with
   |row _ _ _ _ u' xs hu' df hr Sw h1 hg=>
    rw[ec]at hu';cases hu';refine⟨.int .i64 rows.length,?_,.d _ _ (.v _)⟩;generalize hn:rows.length=n' at df;cases df<;>simp[execOp,ho,hu,resolve,invoke,builtin,Builtin.len_,run_underlying tk.und,goInt]
end
theorem a3j {p:Prop}(h:p:=by
 apply Yg;intro j';by_cases hj':j' < rows.length*sz
 ·rw[XP hj'];exact(q4 j' hj').symm.trans ak
 ·rw[XN aa,XN (by rw[Xo];omega)]):p:=h
theorem a3Q {p:Prop}(h:p:=by
 rw[hu];simp[Instr.storeAt,Instr.sureAddr,storeVar,sizeOf,typeInfo,tk.info,tk.size,tB,qv]):p:=h
theorem a4i {p:Prop}(h:p:=by
 rw[XW hlt]at hj;rw[XW (by rw[<-h.1];exact hlt)]at hx;exact h.2 j d x hj hx):p:=h
section
variable {X:Cfg}{ops:Array Oper}{s:FS}{o:Oper}(hd:∀d,o.dst=some d->d < X.n)
include hd
theorem Ml [Flo]{t nk:Nat}{ti:TI}(ho:o.op= .alloc t)(ht:aV X.P t=some ti)(hk:s.heap nk= .none)(vL:¬nk < X.m):bH X ops s o {pv:= .ptr nk 0,eff:=[(nk,.box t (ti.zero.map fun x=> .d (.v x)))],touch:=[nk]}:=
 d9 hd (fun kc h=>by simp at h;subst h;simp) fun s' he iH a w c hc=>by
  obtain⟨i,d,z,tk⟩:=iW ht;have hr:bA c w (ti.zero.map fun x=> .d (.v x)) ti.zero:=a4I
  obtain⟨c',h1,h2⟩:=hc.new_box (k:=nk) (by rw[iH nk ak];exact hk) vL t _ ti.zero hr (fun d hd=>by
   obtain⟨x,hx,rfl⟩:=XF.1 hd;exact tk.one x hx)
  refine⟨_,_,_,?_,.inl rfl,c',h1,h2⟩;have hz:z.cells=ti.zero.toArray:=by rw[<-tk.zcells]
  have cg:(Instr.alloc t true (.tuple #[])).run X.P w= .ok (.pointer (some ⟨w.heap.size,0,none⟩)) (w.alloc (.cells ti.zero.toArray t)):=by
   rw[<-hz];have kr:∀o:Obj,({w with heap:=w.heap.push o}:World)=w.alloc o:=fun o=>(X' w o);simp[Instr.alloc,zeroValue,typeInfo,tk.info,tk.zero,newVar,newRow,newObj,Sem.run,kr]
  simp only[execOp,ho];rw[Sem.run_bind,cg];rfl
theorem TN [Flo]{t nk:Nat}{x:Operand}(ho:o.op= .box t x)(hk:s.heap nk= .none)(vL:¬nk < X.m)(hx:wM (ev s x)=true):bH X ops s o {pv:= .ptr nk 0,eff:=[(nk,.box t (cF (ev s x)))],touch:=[nk]}:=
 d9 hd (fun kc h=>by simp at h;subst h;simp) fun s' he iH a w c hc=>by
  have e1:=bI hc x;rw[he x (by simp[ho,Op.operands])]at e1;obtain⟨r1,r2⟩:=j5 e1 hx;obtain⟨c',h1,h2⟩:=hc.new_box (k:=nk) (by rw[iH nk ak];exact hk) vL t _ _ r1 r2;refine⟨_,_,_,?_,.inl rfl,c',h1,h2⟩;have cg:(Instr.box t (a.eval x)).run X.P w= .ok (.pointer (some ⟨w.heap.size,0,none⟩)) (w.alloc (.cells (a.eval x).cells.toList.toArray t)):=by
   have kr:∀o:Obj,({w with heap:=w.heap.push o}:World)=w.alloc o:=fun o=>(X' w o);simp[Instr.box,newVar,newRow,newObj,Sem.run,kr]
  simp only[execOp,ho];rw[Sem.run_bind,cg];rfl
theorem Mm [Flo]{t k off T:Nat}{x y:Operand}{ti:TI}{cells:List PV}(ho:o.op= .store t x y)(pW:o.dst=none)(ht:aV X.P t=some ti)(hx:ev s x= .ptr k off)(hk:s.heap k= .box T cells)(hy:wM (ev s y)=true)
 (hl:(cF (ev s y)).length=ti.size) (cK:off+ti.size<=cells.length):bH X ops s o {pv:= .any,eff:=[(k,.box T (aC cells off (cF (ev s y))))],touch:=[k]}:=
 d9 hd (fun kc h=>by simp at h;subst h;simp) fun s' he iH a w c hc=>by
  have e1:=bI hc x;rw[he x (by simp[ho,Op.operands]),hx]at e1;have e2:=bI hc y;rw[he y (by simp[ho,Op.operands])]at e2;obtain⟨r1,r2⟩:=j5 e2 hy;have eO:=bA.one r1 r2;have hk':s'.heap k= .box T cells:=by rw[iH k ak];exact hk
  have bo:=hc.chunk k;rw[hk']at bo;generalize hu:a.eval x=u at e1;cases e1 with
  |ptr _ _ b hb=>
   cases bo with
   |box _ _ b' vs hb' hh hr h1=>
    rw[hb]at hb';cases hb';obtain⟨i,d,z,tk⟩:=iW ht;have Sv:vs.length=cells.length:=hr.1.symm;have tB:(a.eval y).cells.size=ti.size:=by have:=r1.1;simp at this;omega
    have iU:=m8 (off:=off) hr r1 aa;have h3:=hc.set_box hk' hb hh iU (fun d hd=>(lA hd).elim (h1 d) (r2 d));refine⟨.skip,undef,_,?_,.inr ⟨rfl,rfl⟩,c,h3,.any _⟩;have dN:=run_storeCells_at X.P b off T (a.eval y).cells.toList 0 vs.toArray w hh aN eO;have qv:(storeCells ⟨b,off,none⟩ (a.eval y).cells.toList).run X.P w= .ok () (w.setRow b (aC vs off (a.eval y).cells.toList).toArray):=by
     rw[dN];simp[aC]
    have cg:(Instr.storeAt t (a.eval x) (a.eval y)).run X.P w= .ok () (w.setRow b (aC vs off (a.eval y).cells.toList).toArray):=a3Q
    simp only[execOp,ho];rw[Sem.run_bind,cg];rfl
omit hd in
theorem cO {α:Type}{sz:Nat}:∀{rows:List (List α)},(∀r∈rows,r.length=sz)->rows.flatten.length=rows.length*sz
 |[],_=>by simp
 |r::rows,h=>by
  rw[YR,XV,h r ak,cO (fun r hr=>h r (by simp[hr])),XC,YX];omega
omit hd in
theorem wO [Flo]{M:Nat->Prop}{w:World}{sz:Nat}{rows:List (List D)}{ad:Addr}{n cap:Nat}(hs:0 < sz)(h:RepD M w (.sl sz rows) (.slice (some ad) n cap)):
 ∃xs:List Value,xs.length=n*sz/\n=rows.length/\cj M w rows.flatten xs/\(∀j u,xs[j]? =some u->w.cell? (ad.add j)=some u)/\(∀u∈xs,u.oneCell'=true)/\(∀r∈rows,r.length=sz)/\(∀r∈rows,∀d∈r,d.one=true):=by
 cases h with
 |nil _ _ _ hm=>exact⟨[],by simp,rfl,⟨rfl,fun j d x h=>by simp at h⟩,fun j u h=>by simp at h,fun u h=>by simp at h,fun r h=>by simp at h,fun r h=>by simp at h⟩
 |sl _ _ b off cap f hM hb hc hm hr h1 cf aU=>
  have hdm:∀j,j < rows.length*sz->j / sz < rows.length/\j % sz < sz/\j / sz*sz+j % sz=j:=fun j hj=>
   ⟨ZA (by rw[Zr];exact hj),_h _ hs,by rw[Zr];exact ZQ j sz⟩
  have Sx:∀j u,((X4 (rows.length*sz)).map fun j=>f (j / sz) (j % sz))[j]? =some u->j < rows.length*sz/\u=f (j / sz) (j % sz):=by
   intro j u hj;simp only[Xr,XB]at hj;obtain⟨y,hy,rfl⟩:=hj;have hj':j < rows.length*sz:=by
    rcases XL j (rows.length*sz)with h|h
    ·exact h
    ·rw[XN (by simpa using h)]at hy;cases hy
   rw[ZZ hj']at hy;cases hy;exact⟨hj',rfl⟩
  have hrd:cj M w rows.flatten ((X4 (rows.length*sz)).map fun j=>f (j / sz) (j % sz)):=by
   refine⟨by rw[cO hr];simp,fun j d x hj hx=>?_⟩;obtain⟨hj',rfl⟩:=Sx j x hx;obtain⟨q1,q2,q3⟩:=hdm j hj';rw[<-q3,cA hr _ _ q2]at hj;cases b9:rows[j / sz]? with
   |none=>rw[b9]at hj;cases hj
   |some row=>
    rw[b9]at hj;exact aU _ _ row d b9 hj
  refine⟨_,by simp,rfl,hrd,fun j u hj=>?_,cj.one hrd (fun d hd=>?_),hr,h1⟩
  ·obtain⟨hj',rfl⟩:=Sx j u hj;obtain⟨q1,q2,q3⟩:=hdm j hj';rw[Addr.add_lit];have:=cf _ _ q1 q2;rwa [ZI,q3]at this
  ·obtain⟨r,hr',F4⟩:=ZL.1 hd;exact h1 r hr' d F4
omit hd in
theorem BM {P:Program}{w:World}(base:Nat)(t ty e:TypeId)(i:TypeInfo)(z:Value)(size bytes:Nat)(ht:P.underlying t=some (.slice e))(hi:P.info? e=some i)(hz:i.zero=some z)
 (Bz:i.size=size) (P4:i.bytes=bytes) (Pd:z.cells.size=size) (cK:0 < size) (v:Value) (n:Nat) (xs:List Value) (df:w.ownsRow base e size v n xs)
 (a:Addr) (m c:Nat) (news:List Value) (hl:news.length=m*size) (vM:∀j u,news[j]? =some u->w.cell? (a.add j)=some u) (h1:∀u∈news,u.oneCell'=true)
 (WS:n+m<=maxLen) (rN:(n+m)*bytes<=140737488355328) {v':Value}{w':World} (cg:(Builtin.append_ #[t,t] ty #[v,.slice (some a) m c]).run P w= .ok v' w'):
 v'.ownBlock=v.ownBlock\/∀b,v'.ownBlock=some b->w.heap.size<=b:=by
 subst Bz;subst P4;simp only[maxLen]at WS;rcases df.2 with⟨rfl,rfl⟩|⟨g,cap,cur,rfl,cV,hg,LX,LY,fP,a1D⟩
 ·by_cases hm:m=0
  ·subst hm;have hn:news=[]:=X9 (by simpa using hl);have:(Builtin.append_ #[t,t] ty #[.slice none 0 0,.slice (some a) 0 c]).run P w= .ok (.slice none 0 0) w:=by
    simp[Builtin.append_,run_underlying ht,sizeOf,typeInfo,hi,Builtin.lenOf,Builtin.firstCells,loadCells,loadCellsFrom]
   rw[this]at cg;cases cg;exact .inl rfl
  ·have hr:=run_append_nil (P:=P) w t ty e i z ht hi hz a m c news hl vM aa aa (by have hb:=rN;simp only[Xw]at hb;omega);rw[hr]at cg;cases cg;refine .inr fun b hb=>?_;simp[Value.ownBlock]at hb;omega
 ·by_cases jZ:n+m<=cap
  ·have CS:n*i.size+news.length<=cur.size:=by rw[hl,fP,<-ZT];exact Yt _ jZ
   have hr:=run_append_room (P:=P) w t ty e i ht hi g n cap cur hg a m c news hl vM h1 jZ CS;rw[hr]at cg;cases cg;exact .inl rfl
  ·have holds:∀j u,xs[j]? =some u->w.cell? ((⟨g,0,none⟩:Addr).add j)=some u:=df.cells (g:=g) rfl;have hr:=run_append_grow (P:=P) w t ty e i z ht hi hz ⟨g,0,none⟩ n cap xs df.1 holds a m c news hl vM aa aa (growslice_fits aa rN);rw[hr]at cg;cases cg;refine .inr fun b hb=>?_;simp[Value.ownBlock]at hb;omega
omit hd in
theorem OwnV.of_row {w:World}{base E sz:Nat}{v:Value}{n:Nat}{xs:List Value}(h:w.ownsRow base E sz v n xs):OwnV w E sz v n xs:=by
 have hl:=h.1;rcases h.2 with⟨rfl,rfl⟩|⟨g,cap,cur,rfl,cV,hg,LX,LY,fP,ht⟩
 ·have:xs=[]:=X9 (by simpa using hl);subst this;exact .nil
 ·rcases Zx cap with h0|h0
  ·subst h0;have hn:n=0:=aa;subst hn;have:xs=[]:=X9 (by simpa using hl);subst this;exact .zero _
  ·exact .row g n cap cur xs h0 hg LX LY fP hl ht
omit hd in
theorem dr {a:Addr}{n cap:Nat}(h:0 < cap):fE (.slice (some a) n cap)=some a.block:=by
 obtain⟨cap,rfl⟩:∃c,cap=c+1:=⟨cap - 1,by omega⟩;rfl
omit hd in
theorem r9 {P:Program}{w:World}(t ty e:TypeId)(i:TypeInfo)(z:Value)(size bytes:Nat)(ht:P.underlying t=some (.slice e))(hi:P.info? e=some i)(hz:i.zero=some z)
 (Bz:i.size=size) (P4:i.bytes=bytes) (Pd:z.cells.size=size) (cK:0 < size) (v:Value) (n:Nat) (xs:List Value) (df:OwnV w e size v n xs)
 (a:Addr) (m c:Nat) (news:List Value) (hl:news.length=m*size) (vM:∀j u,news[j]? =some u->w.cell? (a.add j)=some u) (h1:∀u∈news,u.oneCell'=true)
 (WS:n+m<=maxLen) (rN:(n+m)*bytes<=140737488355328):
 ∃v' w',(Builtin.append_ #[t,t] ty #[v,.slice (some a) m c]).run P w= .ok v' w'/\OwnV w' e size v' (n+m) (xs++news)/\OneB w w' (fE v)/\(fE v'=fE v\/∀b,fE v'=some b->w.heap.size<=b):=by
 have main:∀u,w.ownsRow 0 e size u n xs->(u= .slice none 0 0\/∃g cap,0 < cap/\u= .slice (some ⟨g,0,none⟩) n cap)->
  ∃v' w',(Builtin.append_ #[t,t] ty #[u,.slice (some a) m c]).run P w= .ok v' w'/\OwnV w' e size v' (n+m) (xs++news)/\OneB w w' (fE u)/\(fE v'=fE u\/∀b,fE v'=some b->w.heap.size<=b):=by
  intro u hu hk;obtain⟨v',w',cg,BA,F5,-⟩:=run_append_own (P:=P) w 0 t ty e i z size bytes ht hi hz Bz P4 Pd cK u n xs hu a m c news hl vM h1 WS rN (XE _);have WT:=BM (P:=P) (w:=w) 0 t ty e i z size bytes ht hi hz Bz P4 Pd cK u n xs hu a m c news hl vM h1 WS rN cg;have hb:u.ownBlock=fE u:=by
   rcases hk with rfl|⟨g,cap,h0,rfl⟩
   ·rfl
   ·rw[dr h0];rfl
  have jT:∀b,fE v'=some b->v'.ownBlock=some b:=by
   intro b hb;cases v' with
   |slice ao k cap=>
    cases ao with
    |none=>cases hb
    |some ad=>cases cap with
     |zero=>cases hb
     |succ cap=>exact hb
   |_=>cases hb
  refine⟨v',w',cg,.of_row BA,⟨F5.os,F5.tape,F5.output,F5.size,fun b hb' bG=>F5.block b hb' (fun e=>bG (by rw[<-hb];exact e.symm))⟩,?_⟩;rcases WT with hw|hw
  ·by_cases LZ:∃b,fE v'=some b
   ·obtain⟨b,Pe⟩:=LZ;exact .inl (by rw[<-hb,<-hw,Pe,jT b Pe])
   ·exact .inr fun b hb=>absurd ⟨b,hb⟩ LZ
  ·exact .inr fun b hb=>hw b (jT b hb)
 cases df with
 |nil=>exact main _ (World.ownsRow_nil w 0 e size) (.inl rfl)
 |row g n cap cur xs h0 hh hn hm hs hl ht=>exact main _ ⟨hl,.inr ⟨g,cap,cur,rfl,XE _,hh,hn,hm,hs,ht⟩⟩ (.inr ⟨g,cap,h0,rfl⟩)
 |zero ad=>
  by_cases hm:m=0
  ·subst hm;have hn:news=[]:=X9 (by simpa using hl);subst hn;refine⟨.slice (some ad) 0 0,w,?_,.zero ad,⟨rfl,rfl,rfl,XA _,fun _ _ _=>rfl⟩,.inl rfl⟩;simp[Builtin.append_,run_underlying ht,sizeOf,typeInfo,hi,Builtin.lenOf,Builtin.firstCells,loadCells,loadCellsFrom,storeCells]
  ·simp only[maxLen]at WS;have mU:=run_append_nil (P:=P) w t ty e i z ht hi hz a m c news (by rw[Bz];exact hl) vM aa aa (by rw[P4];simp only[Xw]at rN;omega);have hg:=run_append_grow (P:=P) w t ty e i z ht hi hz ad 0 0 [] ak (fun j v h=>by simp at h) a m c news (by rw[Bz];exact hl) vM aa aa
    (by rw[P4];exact growslice_fits aa rN)
   obtain⟨v',w',g1,g2,g3,g4⟩:=main _ (World.ownsRow_nil w 0 e size) (.inl rfl);rw[mU]at g1;simp only[Xw]at hg;have e2:(#[]++news.toArray++Builtin.zeroCells z.cells (grownCap w m 0 e - m))=news.toArray++Builtin.zeroCells z.cells (grownCap w m 0 e - m):=ak;rw[show ([]:List Value).toArray=#[] from rfl,e2,g1]at hg;exact⟨v',w',hg,g2,g3,g4⟩
omit hd in
theorem nc {P:Program}{w:World}(t ty e:TypeId)(i:TypeInfo)(size:Nat)(ht:P.underlying t=some (.slice e))(hi:P.info? e=some i)(v:Value)(n:Nat)(xs:List Value)(df:OwnV w e size v n xs)(c:Nat):
 (Builtin.append_ #[t,t] ty #[v,.slice none 0 c]).run P w= .ok v w:=by
 cases df with
 |nil=>simp[Builtin.append_,run_underlying ht,sizeOf,typeInfo,hi,Builtin.lenOf,Builtin.firstCells]
 |zero a=>simp[Builtin.append_,run_underlying ht,sizeOf,typeInfo,hi,Builtin.lenOf,Builtin.firstCells,storeCells]
 |row g n cap cur xs h0 hh hn hm hs hl iV=>simp[Builtin.append_,run_underlying ht,sizeOf,typeInfo,hi,Builtin.lenOf,Builtin.firstCells,hn,storeCells]
omit hd in
theorem je {rows:List (List D)}{r:List PV}(h:r∈ab rows):∃q∈rows,r=q.map .d:=by
 obtain⟨q,hq,rfl⟩:=XF.1 h;exact⟨q,hq,rfl⟩
omit hd in
theorem qD (rows:List (List D)):(ab rows).flatten=rows.flatten.map .d:=by
 simp[ab,Z1]
inductive SrcP (s:FS) (sz:Nat):PV->List (List PV)->List Nat->Prop
 |sl (news:List (List D)):SrcP s sz (.d (.sl sz news)) (ab news) []
 |nil (ao:Option Addr) (c:Nat):SrcP s sz (.d (.v (.slice ao 0 c))) [] []
 |own (k g E:Nat) (rows:List (List PV)) (h:s.heap k= .row E sz g rows):SrcP s sz (.own k g) rows [k]
 |osl (k g E a n:Nat) (rows:List (List PV)) (h:s.heap k= .row E sz g rows):SrcP s sz (.osl k g sz a n) ((rows.drop a).take n) [k]
omit hd in
theorem lj {α:Type}{sz:Nat}:∀{rows:List (List α)},(∀r∈rows,r.length=sz)->∀a,(rows.drop a).flatten=rows.flatten.drop (a*sz)
 |rows,_,0=>by simp
 |[],_,a+1=>by simp
 |r::rows,h,a+1=>by
  have hr:=h r ak;rw[List.drop_succ_cons,lj (fun r hr=>h r (by simp[hr])) a,YR,YX,_n,Y' (l:=r) aa,X8,hr];congr 1;omega
omit hd in
theorem ju {α:Type}{sz:Nat}:∀{rows:List (List α)},(∀r∈rows,r.length=sz)->∀a,(rows.take a).flatten=rows.flatten.take (a*sz)
 |rows,_,0=>by simp
 |[],_,a+1=>by simp
 |r::rows,h,a+1=>by
  have hr:=h r ak;rw[ZF,YR,YR,ju (fun r hr=>h r (by simp[hr])) a,YX,List.take_append,XM (l:=r) aa,hr];congr 2;omega
omit hd in
theorem Gi [Flo]{s s':FS}{sz:Nat}{y:PV}{news:List (List PV)}{ty:List Nat}(h:SrcP s sz y news ty)(we:0 < sz)(iH:∀k∈ty,s'.heap k=s.heap k){a:Act}{w:World}{c:Cx}(hc:RealC X s' a w c){v:Value}(hr:RepP c w y v):
 (∀r∈news,r.length=sz)/\(∀r∈news,∀d∈r,d.one=true)/\((∃c0,v= .slice none 0 c0/\news=[])\/
  ∃(ad:Addr) (cap:Nat) (ys:List Value),v= .slice (some ad) news.length cap/\ys.length=news.length*sz/\(∀j u,ys[j]? =some u->w.cell? (ad.add j)=some u)/\(∀u∈ys,u.oneCell'=true)/\bA c w news.flatten ys):=by
 cases h with
 |sl news=>
  have hr:=ck hr;have some_case:∀(ad:Addr) (n cap:Nat),RepD c.M w (.sl sz news) (.slice (some ad) n cap)->_:=fun ad n cap h=>wO we h;have rows_ok:(∀r∈news,r.length=sz)->(∀r∈news,∀d∈r,d.one=true)->(∀r∈ab news,r.length=sz)/\(∀r∈ab news,∀d∈r,d.one=true):=fun g1 g2=>by
   refine⟨fun r hr=>?_,fun r hr d hd=>?_⟩
   ·obtain⟨q,hq,rfl⟩:=je hr;simpa using g1 q hq
   ·obtain⟨q,hq,rfl⟩:=je hr;obtain⟨x,hx,rfl⟩:=XF.1 hd;exact g2 q hq x hx
  have bP:(ab news).length=news.length:=by simp[ab]
  cases hr with
  |nil _ ao cap hm=>
   refine⟨fun r h=>by simp[ab]at h,fun r h=>by simp[ab]at h,?_⟩;cases ao with
   |none=>exact .inl ⟨cap,rfl,rfl⟩
   |some ad=>exact .inr ⟨ad,cap,[],rfl,by simp[ab],fun j u h=>by simp at h,fun u h=>by simp at h,⟨rfl,fun j d x h=>by simp[ab]at h⟩⟩
  |sl _ _ b off cap f a1 a2 a3 a4 a5 a6 a7 a8 a9=>
   obtain⟨ys,y1,-,y2,y3,y4,y5,y6⟩:=wO (w:=w) we (RepD.sl (M:=c.M) sz news b off cap f a1 a2 a3 a4 a5 a6 a7 a8 a9);obtain⟨q1,q2⟩:=rows_ok y5 y6;exact⟨q1,q2,.inr ⟨⟨b,off,none⟩,cap,ys,by rw[bP],by rw[bP];exact y1,y3,y4,by rw[qD];exact p8 y2⟩⟩
 |nil ao c=>
  have hr:=ck hr;cases hr;cases ao with
  |none=>exact⟨fun r h=>by simp at h,fun r h=>by simp at h,.inl ⟨c,rfl,rfl⟩⟩
  |some ad=>exact⟨fun r h=>by simp at h,fun r h=>by simp at h,.inr ⟨ad,c,[],rfl,by simp,fun j u h=>by simp at h,fun u h=>by simp at h,⟨rfl,fun j d x h=>by simp at h⟩⟩⟩
 |own k g E rows hk=>
  have bo:=hc.chunk k;rw[iH k ak,hk]at bo;cases hr with
  |own _ _ _ ec _=>
   cases bo with
   |row _ _ _ _ u xs hu df oR cK h1 hg=>
    rw[ec]at hu;cases hu;refine⟨cK,h1,?_⟩;have eO:=bA.one oR (fun d hd=>by obtain⟨r,hr,hd⟩:=ZL.1 hd;exact h1 r hr d hd);generalize hn:news.length=n' at df;cases df with
    |nil=>exact .inl ⟨0,rfl,X9 hn⟩
    |zero ad=>exact .inr ⟨ad,0,[],rfl,by simp,fun j u h=>by simp at h,fun u h=>by simp at h,oR⟩
    |row gb _ cap cur _ h0 hh LX hm hs hl ht=>
     refine .inr ⟨⟨gb,0,none⟩,cap,xs,rfl,hl,fun j u hj=>?_,eO,oR⟩;rw[Addr.add_lit];have hlt:j < n'*sz:=by rw[<-hl];exact(Xm.1 hj).1
     rw[<-ht,XP hlt,X6]at hj;simp[YL,hh,hj]
 |osl k g E st m rows hk=>
  have bo:=hc.chunk k;rw[iH k ak,hk]at bo;cases hr with
  |osl _ _ _ _ _ b o N cap ec hn To ho=>
   cases bo with
   |row _ _ _ _ u xs hu df oR cK h1 hg=>
    rw[ec]at hu;cases hu;have eO:=bA.one oR (fun d hd=>by obtain⟨r,hr,hd⟩:=ZL.1 hd;exact h1 r hr d hd);refine⟨fun r hr=>cK r (Yd (Yf hr)),fun r hr=>h1 r (Yd (Yf hr)),.inr ⟨⟨b,o,none⟩,cap - st,(xs.drop (st*sz)).take (m*sz),?_⟩⟩;have hN:N=rows.length:=by
     have:=df;generalize rows.length=n' at this;cases this<;>rfl
    have lI:((rows.drop st).take m).length=m:=by rw[Xo,XO];omega
    have HL:=df.len;have UX:(st+m)*sz<=rows.length*sz:=Yt sz aa;rw[ZT]at UX;refine⟨by rw[lI],by rw[lI,Xo,XO];omega,fun j u hj=>?_,fun u hu=>eO u (Yd (Yf hu)),?_⟩
    ·have hlt:j < m*sz:=by
      have:=(Xm.1 hj).1;rw[Xo]at this;omega
     rw[XP hlt,Yk]at hj;have hm0:0 < m:=by
      rcases Zx m with h|h
      ·subst h;simp at hlt
      ·exact h
     rw[Addr.add_lit,ho aa];generalize VO:rows.length=n' at df;cases df with
     |zero=>simp at VO;omega
     |row _ _ _ cur _ h0 hh LX hm hs hl ht=>
      rw[<-ht,XP (by rw[VO]at UX;omega),X6]at hj;simp[YL,hh,hj]
    ·rw[ju (fun r hr=>cK r (Yd hr)),lj cK];exact oR.part _ _
omit hd in
theorem tP [Flo]{c:Cx}{w:World}{ds es:List PV}{vs us:List Value}(h:bA c w ds vs)(g:bA c w es us):bA c w (ds++es) (vs++us):=by
 refine⟨by simp[h.1,g.1],fun j d x hj hx=>?_⟩;by_cases hlt:j < ds.length
 ·exact a4i
 ·rw[XI aa]at hj;rw[XI (by rw[<-h.1];omega),<-h.1]at hx;exact g.2 _ d x hj hx
theorem JA [Flo]{t e k sz g:Nat}{x y:Operand}{ti te:TI}{rows news:List (List PV)}{tyy:List Nat}(ho:o.op= .call {callee:= .builtin .append,args:=#[x,y],argTypes:=#[t,t]})(ht:aV X.P t=some ti)(he':ti.elem=some e)(iD:aV X.P e=some te)
 (cK:te.size=sz) (we:0 < sz) (hx:ev s x= .own k g) (hk:s.heap k= .row e sz g rows) (hy:SrcP s sz (ev s y) news tyy)
 (bP:rows.length+news.length<=9223372036854775807) (P4:(rows.length+news.length)*te.bytes<=140737488355328):
 bH X ops s o {pv:= .own k (g+1),eff:=[(k,.row e sz (g+1) (rows++news))],touch:=k::tyy}:=
 d9 hd (fun kc h=>by simp at h;subst h;simp) fun s' he iH a w c hc=>by
  have e1:=bI hc x;rw[he x (by simp[ho,Op.operands,Call.operands]),hx]at e1;have e2:=bI hc y;rw[he y (by simp[ho,Op.operands,Call.operands])]at e2;have hk':s'.heap k= .row e sz g rows:=by rw[iH k ak];exact hk
  have bo:=hc.chunk k;rw[hk']at bo;obtain⟨i,d,z,tk⟩:=iW ht;obtain⟨ie,de,ze,tke⟩:=iW iD;have lg:d= .slice e:=a1V
  subst lg;have Pd:ze.cells.size=sz:=by rw[<-cK,<-tke.zsize,<-tke.zcells];simp
  have FC:∀u v,a.eval x=u->a.eval y=v->∀v' w',(Builtin.append_ #[t,t] o.type #[u,v]).run X.P w= .ok v' w'->(execOp a.eval o).run X.P w= .ok (.value v') w':=by
   intro u v hu hv v' w' hr;simp[execOp,ho,resolve,hu,hv,invoke,builtin,hr]
  generalize hu:a.eval x=u at e1;generalize hv:a.eval y=v at e2;obtain⟨n1,n2,tC⟩:=Gi hy we (fun k hk=>iH k (YP _ hk)) hc e2;cases e1 with
  |own _ _ _ ec Dh=>
   cases bo with
   |row _ _ _ _ u' xs hu' df hr Sw h1 hg=>
    rw[ec]at hu';cases hu';rcases tC with⟨c0,rfl,rfl⟩|⟨ad,cap,ys,rfl,y1,y2,y3,y4⟩
    ·have cg:=nc (P:=X.P) t o.type e ie sz tk.und tke.info u rows.length xs df c0;obtain⟨c',q1,q2⟩:=hc.set_row (w':=w) (rows':=rows++[]) (v':=u) (xs':=xs) hk' ec ⟨rfl,rfl,rfl,XA _,fun _ _ _=>rfl⟩ (by rw[Yv];exact df) (.inl rfl) (by rw[Yv];exact hr)
      (by rw[Yv];exact Sw) (by rw[Yv];exact h1)
     exact⟨_,_,_,FC _ _ hu hv _ _ cg,.inl rfl,c',q1,q2⟩
    ·obtain⟨v',w',cg,BA,F5,WT⟩:=r9 (P:=X.P) (w:=w) t o.type e ie ze sz te.bytes tk.und tke.info tke.zero (tke.size.trans cK) tke.bytes Pd we u rows.length xs df ad news.length cap ys y1 y2 y3 (by unfold maxLen;exact bP) P4;obtain⟨c',q1,q2⟩:=hc.set_row (w':=w') (rows':=rows++news) (v':=v') (xs':=xs++ys) hk' ec F5 (by rw[XV];exact BA) WT (by rw[J'];exact tP hr y4)
      (fun r hr'=>(X0.1 hr').elim (Sw r) (n1 r)) (fun r hr'=>(X0.1 hr').elim (h1 r) (n2 r))
     exact⟨_,_,_,FC _ _ hu hv _ _ cg,.inl rfl,c',q1,q2⟩
theorem BN [Flo]{t e nk sz:Nat}{x y:Operand}{ti te:TI}{news:List (List PV)}{tyy:List Nat}(ho:o.op= .call {callee:= .builtin .append,args:=#[x,y],argTypes:=#[t,t]})(ht:aV X.P t=some ti)(he':ti.elem=some e)(iD:aV X.P e=some te)
 (cK:te.size=sz) (we:0 < sz) (hx:ev s x= .d (.v (.slice none 0 0))) (hk:s.heap nk= .none) (vL:¬nk < X.m) (hy:SrcP s sz (ev s y) news tyy)
 (bP:news.length<=9223372036854775807) (P4:news.length*te.bytes<=140737488355328):
 bH X ops s o {pv:= .own nk 0,eff:=[(nk,.row e sz 0 news)],touch:=nk::tyy}:=
 d9 hd (fun kc h=>by simp at h;subst h;simp) fun s' he iH a w c hc=>by
  have e2:=bI hc y;rw[he y (by simp[ho,Op.operands,Call.operands])]at e2;have hk':s'.heap nk= .none:=by rw[iH nk ak];exact hk
  have hu:=di hc ((he x (by simp[ho,Op.operands,Call.operands])).trans hx);obtain⟨i,d,z,tk⟩:=iW ht;obtain⟨ie,de,ze,tke⟩:=iW iD;have lg:d= .slice e:=a1V
  subst lg;have Pd:ze.cells.size=sz:=by rw[<-cK,<-tke.zsize,<-tke.zcells];simp
  generalize hv:a.eval y=v at e2;have FC:∀v' w',(Builtin.append_ #[t,t] o.type #[.slice none 0 0,v]).run X.P w= .ok v' w'->(execOp a.eval o).run X.P w= .ok (.value v') w':=by
   intro v' w' hr;simp[execOp,ho,resolve,hu,hv,invoke,builtin,hr]
  obtain⟨n1,n2,tC⟩:=Gi hy we (fun k hk=>iH k (YP _ hk)) hc e2;rcases tC with⟨c0,rfl,rfl⟩|⟨ad,cap,ys,rfl,y1,y2,y3,y4⟩
  ·have cg:=nc (P:=X.P) (w:=w) t o.type e ie sz tk.und tke.info (.slice none 0 0) 0 [] .nil c0;obtain⟨c',q1,q2⟩:=hc.new_row (w':=w) hk' vL e sz [] (.slice none 0 0) [] (Below.refl _ _) .nil (fun b h=>by cases h) ⟨rfl,fun j d x h=>by simp at h⟩ ak ak;exact⟨_,_,_,FC _ _ cg,.inl rfl,c',q1,q2⟩
  ·obtain⟨v',w',cg,BA,F5,WT⟩:=r9 (P:=X.P) (w:=w) t o.type e ie ze sz te.bytes tk.und tke.info tke.zero (tke.size.trans cK) tke.bytes Pd we (.slice none 0 0) 0 [] .nil ad news.length cap ys y1 y2 y3 Qf (by rw[Xw];exact P4);have hx':dy w w':=⟨F5.os,F5.tape,F5.output,F5.size,fun b hb=>F5.block b hb (fun h=>by cases h)⟩;obtain⟨c',q1,q2⟩:=hc.new_row (w':=w') hk' vL e sz news v' ys hx' (by rw[Xw,X8]at BA;exact BA) (fun b hb=>by
    rcases WT with h0|h0
    ·rw[h0]at hb;cases hb
    ·exact h0 b hb) y4 n1 n2
   exact⟨_,_,_,FC _ _ cg,.inl rfl,c',q1,q2⟩
omit hd in
theorem Gj {α:Type}{l m xs:List α}{off:Nat}(h:off+xs.length<=l.length):aC (l++m) off xs=aC l off xs++m:=by
 unfold aC;rw[Ym aa,List.drop_append_of_le_length aa];simp
omit hd in
theorem Dw {α:Type}{l m xs:List α}{off:Nat}:aC (l++m) (l.length+off) xs=l++aC m off xs:=by
 unfold aC;rw[List.take_append,_n];rw[XM aa,Y' aa];simp only[X8,X3];rw[show l.length+off - l.length=off by omega,show l.length+off+xs.length - l.length=off+xs.length by omega]
omit hd in
theorem uW {α:Type}{sz:Nat}:∀{rows:List (List α)},(∀r∈rows,r.length=sz)->∀{i j:Nat}{row ps:List α},rows[i]? =some row->j+ps.length<=sz->(rows.set i (aC row j ps)).flatten=aC rows.flatten (i*sz+j) ps
 |[],_,i,j,row,ps,h,_=>by simp at h
 |r::rows,hl,0,j,row,ps,h,hj=>by
  simp at h;subst h;rw[XT,YR,YR,Nat.zero_mul,Xw,Gj (by rw[hl r ak];exact hj)]
 |r::rows,hl,i+1,j,row,ps,h,hj=>by
  rw[X2,YR,YR,uW (fun r hr=>hl r (by simp[hr])) (by simpa using h) hj];have hr:=hl r ak;rw[show (i+1)*sz+j=r.length+(i*sz+j) by rw[YX];omega,Dw]
omit hd in
theorem wP {α:Type}{l xs:List α}{off n:Nat}(h:off+xs.length<=n)(hn:n<=l.length):(aC l off xs).take n=aC (l.take n) off xs:=by
 apply Yg;intro j;rw[jd (by rw[Xo];omega)];by_cases hj:j < n
 ·rw[XP hj,jd aa,XP hj]
 ·rw[XN (by rw[Xo];omega),af aa,XN (by rw[Xo];omega)]
theorem Gk [Flo]{t k g sz i j E:Nat}{x y:Operand}{ti:TI}{rows:List (List PV)}{row:List PV}(ho:o.op= .store t x y)(pW:o.dst=none)(ht:aV X.P t=some ti)(hx:ev s x= .rp k g sz i j)(hk:s.heap k= .row E sz g rows)(b9:rows[i]? =some row)(hy:wM (ev s y)=true)
 (hl:(cF (ev s y)).length=ti.size) (cK:j+ti.size<=sz):bH X ops s o {pv:= .any,eff:=[(k,.row E sz g (rows.set i (aC row j (cF (ev s y)))))],touch:=[k]}:=
 d9 hd (fun kc h=>by simp at h;subst h;simp) fun s' he iH a w c hc=>by
  have e1:=bI hc x;rw[he x (by simp[ho,Op.operands]),hx]at e1;have e2:=bI hc y;rw[he y (by simp[ho,Op.operands])]at e2;obtain⟨r1,r2⟩:=j5 e2 hy;have eO:=bA.one r1 r2;have hk':s'.heap k= .row E sz g rows:=by rw[iH k ak];exact hk
  have bo:=hc.chunk k;rw[hk']at bo;generalize hu:a.eval x=u at e1;cases e1 with
  |rp _ _ _ _ _ b n cap hb=>
   have bG:rows≠[]:=fun e=>by rw[e]at b9;cases b9
   obtain⟨cur,xs,q1,q2,q3,q4,q5,q6,q7,q8,q9,q10,q11⟩:=eB bo hb bG;have hi:i < rows.length:=(Xm.1 b9).1;have CR:(i+1)*sz<=rows.length*sz:=Yt sz hi;rw[YX]at CR;obtain⟨ii,d,z,tk⟩:=iW ht;have tB:(a.eval y).cells.size=ti.size:=by have:=r1.1;simp at this;omega
   have dN:=run_storeCells_at X.P b (i*sz+j) E (a.eval y).cells.toList 0 cur w q1 aN eO;have qv:(storeCells ⟨b,i*sz+j,none⟩ (a.eval y).cells.toList).run X.P w= .ok () (w.setRow b (aC cur.toList (i*sz+j) (a.eval y).cells.toList).toArray):=by
    rw[dN];simp[aC]
   have cg:(Instr.storeAt t (a.eval x) (a.eval y)).run X.P w= .ok () (w.setRow b (aC cur.toList (i*sz+j) (a.eval y).cells.toList).toArray):=a3Q
   have FD:0 < cap:=aa;have bV:(aC cur.toList (i*sz+j) (a.eval y).cells.toList).length=cur.size:=by rw[bt aN];simp
   have Pf:xs=cur.toList.take (rows.length*sz):=a3j
   have rS:(aC xs (i*sz+j) (a.eval y).cells.toList).length=rows.length*sz:=by rw[bt aN];exact q3
   have iU:=hc.put_row (w':=w.setRow b (aC cur.toList (i*sz+j) (a.eval y).cells.toList).toArray) (rows':=rows.set i (aC row j (cF (ev s y)))) (xs':=aC xs (i*sz+j) (a.eval y).cells.toList) hk' hb
    ⟨rfl,rfl,rfl,by simp[ZH],fun b' _ Pg=>by
     rw[dr FD]at Pg;simp only[ZH,YU];rw[af (fun e=>Pg (by rw[e]))]⟩
    (by
     rw[YS,q7];exact .row b rows.length cap _ _ FD (setRow_heap w b _ _ E _ q1) aa q9 (by simp[bV,q11]) rS (by
      rw[YZ,wP aN aN,<-Pf]))
    (by rw[uW q5 b9 aa];exact m8 q2 r1 (by rw[q2.1];omega))
    (fun r hr=>by
     rcases Y4 hr with h|rfl
     ·exact q5 r h
     ·rw[bt (by rw[q5 row (Xk b9)];omega)];exact q5 row (Xk b9))
    (fun r hr d hd=>by
     rcases Y4 hr with h|rfl
     ·exact q6 r h d hd
     ·exact(lA hd).elim (q6 row (Xk b9) d) (r2 d))
   refine⟨.skip,undef,_,?_,.inr ⟨rfl,rfl⟩,c,iU,.any _⟩;simp only[execOp,ho];rw[Sem.run_bind,cg];rfl
end
theorem a3l {p:Prop}(h:p:=by
 rename_i k n e;have:=di hc (XU.inj e);split at h
 ·rename_i h0;have h:=XU.inj h;exact⟨k,by rw[this,<-h,Z0 h0]⟩
 ·cases h):p:=h
section
variable {X:Cfg}{ops:Array Oper}{s:FS}{o:Oper}(hd:∀d,o.dst=some d->d < X.n)
theorem zx {α:Type}{sz:Nat}{rows news:List (List α)}(h:∀r∈rows,r.length=sz)(hn:∀r∈news,r.length=sz)(i:Nat):(aC rows i news).flatten=aC rows.flatten (i*sz) news.flatten:=by
 unfold aC;rw[J',J',ju h,lj h,cO hn,ZT]
theorem zy (z:Array Value)(n:Nat):(Builtin.zeroCells z n).toList=(XS n z.toList).flatten:=by
 have hl:(Builtin.zeroCells z n).toList.length=n*z.size:=by simp[Builtin.zeroCells]
 have hr:∀r∈XS n z.toList,r.length=z.size:=fun r hr=>by rw[Zy hr];simp
 have Jf:(XS n z.toList).flatten.length=n*z.size:=by rw[cO hr];simp
 apply Yg;intro i;by_cases hi:i < n*z.size
 ·have h0:0 < z.size:=by
   rcases Zx z.size with h|h
   ·rw[h]at hi;omega
   ·exact h
  have e1:i / z.size < n:=ZA (by rw[Zr];exact hi);have e2:i % z.size < z.size:=_h _ h0;have e3:i / z.size*z.size+i % z.size=i:=by rw[Zr];exact ZQ i z.size
  have e4:=cA hr (i / z.size) (i % z.size) e2;rw[e3,Z2,ah e1]at e4;rw[e4];simp[Builtin.zeroCells,hi,e2]
 ·rw[XN aa,XN aa]
theorem RealC.write_rows [Flo]{a:Act}{w:World}{c:Cx}(hc:RealC X s a w c){k E sz g:Nat}{rows:List (List PV)}(hk:s.heap k= .row E sz g rows){b n cap:Nat}(hb:c.ov k g=some (.slice (some ⟨b,0,none⟩) n cap))(bG:rows≠[])
 (i:Nat) (news:List (List PV)) (ys:List Value) (hr:bA c w news.flatten ys) (hi:i+news.length<=rows.length) (Sy:∀r∈news,r.length=sz) (h1n:∀r∈news,∀d∈r,d.one=true):
 ∃w',(storeCells ⟨b,i*sz,none⟩ ys).run X.P w= .ok () w'/\RealC X {s with heap:=cw [(k,.row E sz g (aC rows i news))] s.heap} a w' c:=by
 have bo:=hc.chunk k;rw[hk]at bo;obtain⟨cur,xs,q1,q2,q3,q4,q5,q6,q7,q8,q9,q10,q11⟩:=eB bo hb bG;have eO:=bA.one hr (fun d hd=>by obtain⟨r,hr,hd⟩:=ZL.1 hd;exact h1n r hr d hd);have tB:ys.length=news.length*sz:=by rw[<-hr.1,cO Sy]
 have CR:(i+news.length)*sz<=rows.length*sz:=Yt sz hi;rw[ZT]at CR;have dN:=run_storeCells_at X.P b (i*sz) E ys 0 cur w q1 aN eO;have qv:(storeCells ⟨b,i*sz,none⟩ ys).run X.P w= .ok () (w.setRow b (aC cur.toList (i*sz) ys).toArray):=by
  rw[dN];simp[aC]
 have FD:0 < cap:=by
  have:0 < rows.length:=Zb.2 bG;omega
 have bV:(aC cur.toList (i*sz) ys).length=cur.size:=by rw[bt aN];simp
 have Pf:xs=cur.toList.take (rows.length*sz):=a3j
 have rS:(aC xs (i*sz) ys).length=rows.length*sz:=by rw[bt aa];exact q3
 refine⟨_,qv,hc.put_row (rows':=aC rows i news) (xs':=aC xs (i*sz) ys) hk hb ⟨rfl,rfl,rfl,by simp[ZH],fun b' _ Pg=>by
  rw[dr FD]at Pg;simp only[ZH,YU];rw[af (fun e=>Pg (by rw[e]))]⟩ ?_ ?_ ?_ ?_⟩
 ·rw[bt hi,q7];exact .row b rows.length cap _ _ FD (setRow_heap w b _ _ E _ q1) aa q9 (by simp[bV,q11]) rS (by
   rw[YZ,wP aa aN,<-Pf])
 ·rw[zx q5 Sy];exact m8 q2 hr (by rw[q2.1,cO Sy];omega)
 ·exact fun r hr=>(lA hr).elim (q5 r) (Sy r)
 ·exact fun r hr=>(lA hr).elim (q6 r) (h1n r)
include hd
theorem BO [Flo]{t e k sz g n:Nat}{x y:Operand}{ti te:TI}{rows news:List (List PV)}{tyy:List Nat}(ho:o.op= .call {callee:= .builtin .append,args:=#[x,y],argTypes:=#[t,t]})(ht:aV X.P t=some ti)(he':ti.elem=some e)(iD:aV X.P e=some te)
 (cK:te.size=sz) (we:0 < sz) (hx:ev s x= .osl k g sz 0 n) (hk:s.heap k= .row e sz g rows) (bG:rows≠[]) (hy:SrcP s sz (ev s y) news tyy) (dM:n+news.length<=rows.length):
 bH X ops s o {pv:= .osl k g sz 0 (n+news.length),eff:=[(k,.row e sz g (aC rows n news))],touch:=k::tyy}:=
 d9 hd (fun kc h=>by simp at h;subst h;simp) fun s' he iH a w c hc=>by
  have e1:=bI hc x;rw[he x (by simp[ho,Op.operands,Call.operands]),hx]at e1;have e2:=bI hc y;rw[he y (by simp[ho,Op.operands,Call.operands])]at e2;have hk':s'.heap k= .row e sz g rows:=by rw[iH k ak];exact hk
  obtain⟨i,d,z,tk⟩:=iW ht;obtain⟨ie,de,ze,tke⟩:=iW iD;have lg:d= .slice e:=a1V
  subst lg;generalize hu:a.eval x=u at e1;generalize hv:a.eval y=v at e2;obtain⟨n1,n2,tC⟩:=Gi hy we (fun k hk=>iH k (YP _ hk)) hc e2;cases e1 with
  |osl _ _ _ _ _ b oo N cap ec hn To Ph=>
   have By:0 < rows.length:=Zb.2 bG;have bo:=hc.chunk k;rw[hk']at bo;obtain⟨cur,xs,q1,q2,q3,q4,q5,q6,q7,q8,q9,q10,q11⟩:=eB bo ec bG;obtain rfl:oo=0:=by rw[Ph aa];simp
   rcases tC with⟨c0,rfl,rfl⟩|⟨ad,cap',ys,rfl,tB,cf,eO,oR⟩
   ·obtain⟨w',dN,kT⟩:=hc.write_rows hk' ec bG n [] [] ⟨rfl,fun j d x h=>by simp at h⟩ (by simpa using dM) (fun r h=>by simp at h) (fun r h=>by simp at h);have hw:w'=w:=by simpa[storeCells]using dN.symm
    subst hw;refine⟨_,.slice (some ⟨b,0,none⟩) n (cap - 0),w',?_,.inl rfl,c,kT,?_⟩
    ·simp[execOp,ho,resolve,hu,hv,invoke,builtin,Builtin.append_,run_underlying tk.und,sizeOf,typeInfo,tke.info,Builtin.lenOf,Builtin.firstCells,storeCells,(by omega:n<=cap)]
    ·exact .osl k g sz 0 n b 0 N cap ec aa To (fun _=>by simp)
   ·obtain⟨w',dN,kT⟩:=hc.write_rows hk' ec bG n news ys oR dM n1 n2;have hfc:=run_firstCells_some (P:=X.P) w sz news.length ad news.length cap' ys tB cf;refine⟨_,.slice (some ⟨b,0,none⟩) (n+news.length) (cap - 0),w',?_,.inl rfl,c,kT,?_⟩
    ·have jZ:n+news.length<=cap:=aa;have WU:∀ty,(Builtin.append_ #[t,t] ty #[.slice (some ⟨b,0,none⟩) n (cap - 0),.slice (some ad) news.length cap']).run X.P w= .ok (.slice (some ⟨b,0,none⟩) (n+news.length) (cap - 0)) w':=by
      intro ty;simp[Builtin.append_,run_underlying tk.und,sizeOf,typeInfo,tke.info,tke.size,cK,Builtin.lenOf,jZ,hfc,Addr.add_lit,dN]
     simp only[Zs]at WU;simp[execOp,ho,resolve,hu,hv,invoke,builtin,WU]
    ·exact .osl k g sz 0 _ b 0 N cap ec aa To (fun _=>by simp)
theorem Dx [Flo]{t e k sz g st n:Nat}{x:Operand}{ti te:TI}{rows:List (List PV)}(ho:o.op= .call {callee:= .builtin .clear,args:=#[x],argTypes:=#[t]})(ht:aV X.P t=some ti)(he':ti.elem=some e)(iD:aV X.P e=some te)
 (cK:te.size=sz) (hx:ev s x= .osl k g sz st n) (hk:s.heap k= .row e sz g rows) (bG:rows≠[]) (dM:st+n<=rows.length):
 bH X ops s o {pv:= .d (.v (.tuple #[])),eff:=[(k,.row e sz g (aC rows st (XS n (te.zero.map fun x=> .d (.v x)))))],touch:=[k]}:=
 d9 hd (fun kc h=>by simp at h;subst h;simp) fun s' he iH a w c hc=>by
  have e1:=bI hc x;rw[he x (by simp[ho,Op.operands,Call.operands]),hx]at e1;have hk':s'.heap k= .row e sz g rows:=by rw[iH k ak];exact hk
  obtain⟨i,d,z,tk⟩:=iW ht;obtain⟨ie,de,ze,tke⟩:=iW iD;have lg:d= .slice e:=a1V
  subst lg;generalize hu:a.eval x=u at e1;have Tp:te.zero.length=sz:=by rw[tke.zsize,cK]
  have tD:∀x∈te.zero,x.oneCell'=true:=tke.one;cases e1 with
  |osl _ _ _ _ _ b oo N cap ec hn To Ph=>
   cases n with
   |zero=>
    have iU:aC rows st (XS 0 (te.zero.map fun x=>PV.d (.v x)))=rows:=by simp[aC]
    refine⟨_,.tuple #[],w,?_,.inl rfl,c,?_,.d _ _ (.v _)⟩
    ·simp[execOp,ho,resolve,hu,invoke,builtin,Builtin.clear_,run_underlying tk.und]
    ·rw[iU];have:({env:=s'.env,heap:=cw [(k,.row e sz g rows)] s'.heap}:FS)=s':=by
      cases s' with
      |mk env heap=>
       simp only[FS.mk.injEq,true_and];funext k';rw[rY];show (if k'=k then _ else heap k')=heap k';split
       ·rename_i e;subst e;exact hk'.symm
       ·rfl
     rw[this];exact hc
   |succ n=>
    have By:0 < rows.length:=Zb.2 bG;obtain rfl:oo=st*sz:=Ph aa;obtain⟨w',dN,kT⟩:=hc.write_rows hk' ec bG st (XS (n+1) (te.zero.map fun x=> .d (.v x))) (XS (n+1) te.zero).flatten
     ⟨by simp[List.map_replicate],fun j d x hj hx=>by
      have e2:(XS (n+1) (te.zero.map fun x=>PV.d (.v x))).flatten=(XS (n+1) te.zero).flatten.map fun x=>PV.d (.v x):=by rw[Z1,List.map_replicate]
      rw[e2,Xr,hx]at hj;cases hj;exact .d _ _ (.v _)⟩
     (by simpa using dM) (fun r hr=>by rw[Zy hr];simpa using Tp)
     (fun r hr d hd=>by
      rw[Zy hr]at hd;obtain⟨x,hx,rfl⟩:=XF.1 hd;exact tD x hx)
    refine⟨_,.tuple #[],w',?_,.inl rfl,c,kT,.d _ _ (.v _)⟩;have Tq:(Builtin.zeroCells ze.cells (n+1)).toList=(XS (n+1) te.zero).flatten:=by
     rw[<-tke.zcells];exact zy ze.cells (n+1)
    simp[execOp,ho,resolve,hu,invoke,builtin,Builtin.clear_,run_underlying tk.und,zeroValue,typeInfo,tke.info,tke.zero,Tq,dN]
def H6:Option PV->Option Nat
 |none=>some 0
 |some (.d (.v (.int _ n)))=>if 0<=n then some n.toNat else none
 |_=>none
def H7 (len:Nat):Option PV->Option Nat
 |none=>some len
 |some (.d (.v (.int _ n)))=>if 0<=n then some n.toNat else none
 |_=>none
omit hd in
theorem pc {P:Program}{t e sz:Nat}{ie:TypeInfo}(ht:P.underlying t=some (.slice e))(hi:P.info? e=some ie)(cK:ie.size=sz)(w:World)(a:Option Addr)(len cap:Nat)(lo hi:Option Value)(l h:Nat)
 (jr:(lo=none/\l=0)\/∃k,lo=some (.int k l)) (kZ:(hi=none/\h=len)\/∃k,hi=some (.int k h)) (h1:l<=h) (h2:h<=cap):
 (Instr.sliceAt t (.slice a len cap) lo hi none).run P w= .ok (.slice (if cap=l then a else a.map (·.add (l*sz))) (h - l) (cap - l)) w:=by
 have e1:(0:Int)<=(l:Int):=aa;have e2:(0:Int)<=(h:Int):=aa;have e3:(l:Int)<=(h:Int):=aa;have e4:(h:Int)<=(cap:Int):=aa;rcases jr with⟨rfl,rfl⟩|⟨k,rfl⟩<;>rcases kZ with⟨rfl,rfl⟩|⟨k',rfl⟩<;>
  simp[Instr.sliceAt,Instr.slice,run_underlying ht,Instr.sliceBounds,Instr.sliceBound,asIntOf,sizeOf,typeInfo,hi,cK,e1,e2,e3,e4,h1,h2,ZX.2 h1,ZX.2 h2,ZX.2 (Yj h1 h2),Yj h1 h2]
omit hd in
theorem JB {P:Program}{t e sz:Nat}{ie:TypeInfo}(ht:P.underlying t=some (.slice e))(hi:P.info? e=some ie)(cK:ie.size=sz)(w:World)(a:Option Addr)(len cap:Nat)(k1 k2 k3:IntKind)(l h m:Nat)
 (h1:l<=h) (h2:h<=m) (h3:m<=cap):∃v,(Instr.sliceAt t (.slice a len cap) (some (.int k1 l)) (some (.int k2 h)) (some (.int k3 m))).run P w= .ok v w:=by
 have e1:(0:Int)<=(l:Int):=aa;have e2:(0:Int)<=(h:Int):=aa;have e3:(l:Int)<=(h:Int):=aa;have e4:(h:Int)<=(m:Int):=aa;have e5:(0:Int)<=(m:Int):=aa;have e6:(m:Int)<=(cap:Int):=aa;simp[Instr.sliceAt,Instr.slice,run_underlying ht,Instr.sliceBounds,Instr.sliceBound,asIntOf,sizeOf,typeInfo,hi,cK,e1,e2,e3,e4,e5,e6,h1,h2,h3]
omit hd in
theorem pf [Flo]{s':FS}{a:Act}{w:World}{c:Cx}(hc:RealC X s' a w c){lo:Option Operand}{l:Nat}(h:H6 (lo.map (ev s'))=some l):((lo.map a.eval)=none/\l=0)\/∃k,lo.map a.eval=some (.int k l):=by
 cases lo with
 |none=>exact .inl ⟨rfl,by simpa[H6]using h.symm⟩
 |some x=>
  right;simp only[Yb]at h ⊢;unfold H6 at h;split at h
  ·rename_i e;cases e
  ·exact a3l
  ·cases h
omit hd in
theorem pg [Flo]{s':FS}{a:Act}{w:World}{c:Cx}(hc:RealC X s' a w c){lo:Option Operand}{len l:Nat}(h:H7 len (lo.map (ev s'))=some l):((lo.map a.eval)=none/\l=len)\/∃k,lo.map a.eval=some (.int k l):=by
 cases lo with
 |none=>exact .inl ⟨rfl,by simpa[H7]using h.symm⟩
 |some x=>
  right;simp only[Yb]at h ⊢;unfold H7 at h;split at h
  ·rename_i e;cases e
  ·exact a3l
  ·cases h
omit hd in
theorem wQ {s':FS}{lo:Option Operand}(h:∀x,lo=some x->ev s' x=ev s x):lo.map (ev s')=lo.map (ev s):=by
 cases lo with
 |none=>rfl
 |some x=>simp[h x rfl]
theorem JC [Flo]{t e sz:Nat}{x:Operand}{lo hi:Option Operand}{ti te:TI}{rows:List (List D)}{l h:Nat}(ho:o.op= .slice t x lo hi none)(ht:aV X.P t=some ti)(he':ti.elem=some e)(iD:aV X.P e=some te)(cK:te.size=sz)
 (hx:ev s x= .d (.sl sz rows)) (jr:H6 (lo.map (ev s))=some l) (kZ:H7 rows.length (hi.map (ev s))=some h) (h1:l<=h) (h2:h<=rows.length):bH X ops s o {pv:= .d (.sl sz ((rows.take h).drop l))}:=
 aM hd fun s' he _ a w c hc=>by
  have e1:=bI hc x;rw[he x (by simp[ho,Op.operands]),hx]at e1;rw[<-wQ (s:=s) (s':=s') (fun y hy=>he y (by simp[ho,Op.operands,hy]))]at jr kZ;have b1:=pf hc jr;have b2:=pg hc kZ;generalize hu:a.eval x=u at e1;have e1:=ck e1;obtain⟨i,d,z,tk⟩:=iW ht;obtain⟨ie,de,ze,tke⟩:=iW iD;have lg:d= .slice e:=a1V
  subst lg;cases e1 with
  |nil _ ao cap hm=>
   have hr:=pc tk.und tke.info (tke.size.trans cK) w ao 0 cap _ _ l h b1 b2 h1 (by simp at h2;omega);refine⟨_,by simp only[execOp,ho,hu,Zf];rw[Sem.run_bind,hr];rfl,.d _ _ ?_⟩;simp only[XX,Nat.le_zero]at h2;subst h2;simp only[p',List.drop_nil];rw[Nat.zero_sub];exact .nil _ _ _ aa
  |sl _ _ b off cap f hM hb gB hm hr h1' cf aU hz=>
   have hr':=pc tk.und tke.info (tke.size.trans cK) w (some ⟨b,off,none⟩) rows.length cap _ _ l h b1 b2 h1 aa;refine⟨_,by simp only[execOp,ho,hu,Zf];rw[Sem.run_bind,hr'];rfl,.d _ _ ?_⟩;have hl:((rows.take h).drop l).length=h - l:=by rw[XO,Xo];omega
   by_cases a0U:cap=l
   ·obtain rfl:h=l:=aa;have:(rows.take h).drop h=[]:=X9 (by rw[hl];omega);rw[this,YE];exact .nil _ _ _ aa
   ·rw[af a0U,<-hl];simp only[Yb,Addr.add_lit];have Sx:∀i row,((rows.take h).drop l)[i]? =some row->rows[l+i]? =some row:=by
     intro i row hi;rw[Yk]at hi;have:=(Xm.1 hi).1;rw[Xo]at this;rwa [XP aa]at hi
    refine .sl sz _ b (off+l*sz) (cap - l) (fun i j=>f (l+i) j) hM hb aa aa (fun r Jg=>hr r (Yf (Yd Jg))) (fun r Jg=>h1' r (Yf (Yd Jg))) (fun i j hi hj=>?_) (fun i j row d hi hj=>aU _ _ row d (Sx i row hi) hj) hz;have:=cf (l+i) j aa hj;rw[ZT]at this;rw[<-this];congr 2;omega
theorem Dy [Flo]{t e k g sz:Nat}{x:Operand}{lo hi:Option Operand}{ti te:TI}{rows:List (List PV)}{l h:Nat}(ho:o.op= .slice t x lo hi none)(ht:aV X.P t=some ti)(he':ti.elem=some e)(iD:aV X.P e=some te)(cK:te.size=sz)
 (hx:ev s x= .own k g) (hk:s.heap k= .row e sz g rows) (bG:rows≠[]) (jr:H6 (lo.map (ev s))=some l) (kZ:H7 rows.length (hi.map (ev s))=some h) (h1:l<=h) (h2:h<=rows.length):bH X ops s o {pv:= .osl k g sz l (h - l),touch:=[k]}:=
 aM hd fun s' he iH a w c hc=>by
  have e1:=bI hc x;rw[he x (by simp[ho,Op.operands]),hx]at e1;rw[<-wQ (s:=s) (s':=s') (fun y hy=>he y (by simp[ho,Op.operands,hy]))]at jr kZ;have b1:=pf hc jr;have b2:=pg hc kZ;have bo:=hc.chunk k;rw[iH k ak,hk]at bo;generalize hu:a.eval x=u at e1;obtain⟨i,d,z,tk⟩:=iW ht;obtain⟨ie,de,ze,tke⟩:=iW iD;have lg:d= .slice e:=a1V
  subst lg;cases e1 with
  |own _ _ _ ec Dh=>
   obtain⟨b,cap,rfl⟩:=m9 bo ec bG;obtain⟨cur,xs,q1,q2,q3,q4,q5,q6,q7,q8,q9,q10,q11⟩:=eB bo ec bG;have hr':=pc tk.und tke.info (tke.size.trans cK) w (some ⟨b,0,none⟩) rows.length cap _ _ l h b1 b2 h1 aa;refine⟨_,by simp only[execOp,ho,hu,Zf];rw[Sem.run_bind,hr'];rfl,?_⟩;by_cases gB:cap=l
   ·rw[ah gB];exact .osl k g sz l (h - l) b 0 _ cap ec aa q10 aa
   ·rw[af gB];simp only[Yb,Addr.add_lit,Xw];exact .osl k g sz l (h - l) b _ _ cap ec aa q10 (fun _=>rfl)
theorem BP [Flo]{t e k g sz:Nat}{x:Operand}{lo hi:Option Operand}{ti te:TI}(ho:o.op= .slice t x lo hi none)(ht:aV X.P t=some ti)(he':ti.elem=some e)(iD:aV X.P e=some te)(cK:te.size=sz)
 (hx:ev s x= .own k g) (hk:s.heap k= .row e sz g []) (jr:H6 (lo.map (ev s))=some 0) (kZ:H7 0 (hi.map (ev s))=some 0):bH X ops s o {pv:= .any,touch:=[k]}:=
 aM hd fun s' he iH a w c hc=>by
  have e1:=bI hc x;rw[he x (by simp[ho,Op.operands]),hx]at e1;rw[<-wQ (s:=s) (s':=s') (fun y hy=>he y (by simp[ho,Op.operands,hy]))]at jr kZ;have b1:=pf hc jr;have b2:=pg hc kZ;have bo:=hc.chunk k;rw[iH k ak,hk]at bo;generalize hu:a.eval x=u at e1;obtain⟨i,d,z,tk⟩:=iW ht;obtain⟨ie,de,ze,tke⟩:=iW iD;have lg:d= .slice e:=a1V
  subst lg;cases e1 with
  |own _ _ _ ec Dh=>
   cases bo with
   |row _ _ _ _ u' xs hu' df hr Sw h1 hg=>
    rw[ec]at hu';cases hu';obtain⟨ao,cap,rfl⟩:∃ao cap,u= .slice ao 0 cap:=by
     simp only[XX]at df;generalize hz:0=z at df;cases df with
     |nil=>exact⟨_,_,rfl⟩
     |zero=>exact⟨_,_,rfl⟩
     |row=>subst hz;exact⟨_,_,rfl⟩
    have hr':=pc tk.und tke.info (tke.size.trans cK) w ao 0 cap _ _ 0 0 b1 b2 (XA _) (XE _);exact⟨_,by simp only[execOp,ho,hu,Zf];rw[Sem.run_bind,hr'];rfl,.any _⟩
theorem Dz [Flo]{t e k g sz st n:Nat}{x:Operand}{lo hi:Option Operand}{ti te:TI}{rows:List (List PV)}{l h:Nat}(ho:o.op= .slice t x lo hi none)(ht:aV X.P t=some ti)(he':ti.elem=some e)(iD:aV X.P e=some te)(cK:te.size=sz)
 (hx:ev s x= .osl k g sz st n) (hk:s.heap k= .row e sz g rows) (bG:rows≠[]) (jr:H6 (lo.map (ev s))=some l) (kZ:H7 n (hi.map (ev s))=some h) (h1:l<=h) (h2:st+h<=rows.length):bH X ops s o {pv:= .osl k g sz (st+l) (h - l),touch:=[k]}:=
 aM hd fun s' he iH a w c hc=>by
  have e1:=bI hc x;rw[he x (by simp[ho,Op.operands]),hx]at e1;rw[<-wQ (s:=s) (s':=s') (fun y hy=>he y (by simp[ho,Op.operands,hy]))]at jr kZ;have b1:=pf hc jr;have b2:=pg hc kZ;have bo:=hc.chunk k;rw[iH k ak,hk]at bo;generalize hu:a.eval x=u at e1;obtain⟨i,d,z,tk⟩:=iW ht;obtain⟨ie,de,ze,tke⟩:=iW iD;have lg:d= .slice e:=a1V
  subst lg;cases e1 with
  |osl _ _ _ _ _ b oo N cap ec hn To Ph=>
   obtain⟨cur,xs,q1,q2,q3,q4,q5,q6,q7,q8,q9,q10,q11⟩:=eB bo ec bG;have hr':=pc tk.und tke.info (tke.size.trans cK) w (some ⟨b,oo,none⟩) n (cap - st) _ _ l h b1 b2 h1 aa;refine⟨_,by simp only[execOp,ho,hu,Zf];rw[Sem.run_bind,hr'];rfl,?_⟩;rw[Nat.sub_sub];by_cases gB:cap - st=l
   ·rw[ah gB];exact .osl k g sz (st+l) (h - l) b oo _ cap ec aa q10 aa
   ·rw[af gB];simp only[Yb,Addr.add_lit];exact .osl k g sz (st+l) (h - l) b _ _ cap ec aa q10 (fun hlt=>by rw[Ph aa,ZT])
theorem JD [Flo]{t e k g sz:Nat}{x y1 y2 y3:Operand}{ti te:TI}{rows:List (List PV)}{k1 k2 k3:IntKind}{n1 n2 n3:Int}(ho:o.op= .slice t x (some y1) (some y2) (some y3))(ht:aV X.P t=some ti)(he':ti.elem=some e)(iD:aV X.P e=some te)(cK:te.size=sz)
 (hx:ev s x= .own k g) (hk:s.heap k= .row e sz g rows) (bG:rows≠[]) (Sz:ev s y1= .d (.v (.int k1 n1))) (P5:ev s y2= .d (.v (.int k2 n2))) (hy3:ev s y3= .d (.v (.int k3 n3))) (h0:0<=n1) (h1:n1<=n2) (h2:n2<=n3) (h3:n3<=(rows.length:Int)):
 bH X ops s o {pv:= .any,touch:=[k]}:=
 aM hd fun s' he iH a w c hc=>by
  have e1:=bI hc x;rw[he x (by simp[ho,Op.operands]),hx]at e1;have b1:=di hc ((he y1 (by simp[ho,Op.operands])).trans Sz);have b2:=di hc ((he y2 (by simp[ho,Op.operands])).trans P5);have b3:=di hc ((he y3 (by simp[ho,Op.operands])).trans hy3);have bo:=hc.chunk k;rw[iH k ak,hk]at bo;generalize hu:a.eval x=u at e1;obtain⟨i,d,z,tk⟩:=iW ht;obtain⟨ie,de,ze,tke⟩:=iW iD;have lg:d= .slice e:=a1V
  subst lg;cases e1 with
  |own _ _ _ ec Dh=>
   obtain⟨b,cap,rfl⟩:=m9 bo ec bG;obtain⟨cur,xs,q1,q2,q3,q4,q5,q6,q7,q8,q9,q10,q11⟩:=eB bo ec bG;obtain⟨v,hr⟩:=JB tk.und tke.info (tke.size.trans cK) w (some ⟨b,0,none⟩) rows.length cap k1 k2 k3 n1.toNat n2.toNat n3.toNat aa aa aa;rw[Z0 h0,Z0 aa,Z0 aa]at hr;exact⟨v,by simp only[execOp,ho,hu,Yb,b1,b2,b3];rw[Sem.run_bind,hr];rfl,.any _⟩
theorem JE [Flo]{t k g sz st n:Nat}{x:Operand}{e:Nat}{ti:TI}(ho:o.op= .call {callee:= .builtin .len,args:=#[x],argTypes:=#[t]})(ht:aV X.P t=some ti)(he':ti.elem=some e)(hx:ev s x= .osl k g sz st n):
 bH X ops s o {pv:= .d (.v (.int .i64 n))}:=
 aM hd fun s' he _ a w c hc=>by
  have e1:=bI hc x;rw[he x (by simp[ho,Op.operands,Call.operands]),hx]at e1;generalize hu:a.eval x=u at e1;obtain⟨i,dd,z,tk⟩:=iW ht;have lg:dd= .slice e:=a3m
  subst lg;cases e1 with
  |osl=>
   refine⟨.int .i64 n,?_,.d _ _ (.v _)⟩;simp[execOp,ho,hu,resolve,invoke,builtin,Builtin.len_,run_underlying tk.und,goInt]
theorem DA [Flo]{t e k g sz st m:Nat}{x y:Operand}{ti te:TI}{kd:IntKind}{n:Int}(ho:o.op= .indexAddr t x y)(ht:aV X.P t=some ti)(he':ti.elem=some e)(iD:aV X.P e=some te)(cK:te.size=sz)
 (hx:ev s x= .osl k g sz st m) (hy:ev s y= .d (.v (.int kd n))) (hn:0<=n) (hlt:n.toNat < m):bH X ops s o {pv:= .rp k g sz (st+n.toNat) 0}:=
 aM hd fun s' he _ a w c hc=>by
  have e1:=bI hc x;rw[he x (by simp[ho,Op.operands]),hx]at e1;have e2:=di hc ((he y (by simp[ho,Op.operands])).trans hy);generalize hu:a.eval x=u at e1;obtain⟨i,d,z,tk⟩:=iW ht;obtain⟨ie,de,ze,tke⟩:=iW iD;have lg:d= .slice e:=a1V
  subst lg;cases e1 with
  |osl _ _ _ _ _ b oo N cap ec VO To Ph=>
   have tz:0<=n/\n < (m:Int):=⟨hn,by omega⟩;refine⟨.pointer (some ⟨b,(st+n.toNat)*sz+0,none⟩),?_,.rp k g sz _ _ b _ cap ec⟩;rw[ZT,<-Ph aa];simp[execOp,ho,hu,e2,Instr.indexAt,asIntOf,run_underlying tk.und,tz,sizeOf,typeInfo,tke.info,tke.size,cK,Addr.add_lit]
end
theorem a2P {p:Prop}(h:p:=by
 have e:c.bl k=some b':=hb';refine⟨.inl (by rw[cu,<-hb];exact e),?_⟩;simp only[Array.size_setIfInBounds];exact(h.new k b' (by rw[cu,<-hb];exact e)).2):p:=h
theorem a4S {p:Prop}(h:p:=by
 simp only[execOp,ho,hu,hv,e3];rw[Sem.run_bind,cg];rfl):p:=h
def lB:List (List Int × Int)->List Int->Option Int
 |[],_=>none
 |(k,v)::l,ks=>if k=ks then some v else lB l ks
def nd:List (List Int × Int)->List Int->Int->List (List Int × Int)
 |[],ks,v=>[(ks,v)]
 |(k,x)::l,ks,v=>if k=ks then (ks,v)::l else (k,x)::nd l ks v
theorem iK:∀(l:List (List Int × Int)) (ks:List Int) (v:Int) (ks':List Int),lB (nd l ks v) ks'=if ks=ks' then some v else lB l ks'
 |[],ks,v,ks'=>rfl
 |(k,x)::l,ks,v,ks'=>by
  unfold nd;by_cases h:k=ks
  ·subst h;rw[ah rfl];by_cases h':k=ks'
   ·simp[lB,h']
   ·simp[lB,h']
  ·rw[af h];unfold lB;rw[iK l ks v ks'];by_cases h':k=ks'
   ·subst h';simp[Ne.symm h]
   ·simp[h']
theorem H8 {n:Nat}:∀{l:List (List Int × Int)}{ks:List Int}{v:Int},(∀kv∈l,kv.1.length=n)->ks.length=n->∀kv∈nd l ks v,kv.1.length=n
 |[],ks,v,_,hk=>fun kv h=>by simp[nd]at h;rw[h];exact hk
 |(k,x)::l,ks,v,hl,hk=>fun kv h=>by
  unfold nd at h;split at h
  ·rcases XY.1 h with rfl|h
   ·exact hk
   ·exact hl kv (by simp[h])
  ·rcases XY.1 h with rfl|h
   ·exact hl _ ak
   ·exact H8 (fun kv h=>hl kv (by simp[h])) hk kv h
def qT:List (List Int × Int)->List Int->Nat->Option (Nat × Value)
 |[],_,_=>none
 |(k,v)::l,ks,i=>if k=ks then some (i,.int .i64 v)else qT l ks (i+1)
theorem H9:∀(l:List (List Int × Int)) (ks:List Int) (i:Nat),(qT l ks i).map (·.2)=(lB l ks).map (.int .i64)
 |[],_,_=>rfl
 |(k,v)::l,ks,i=>by
  unfold qT lB;split
  ·rfl
  ·exact H9 l ks (i+1)
theorem Az (s:Bool):∀(l:List (List Int × Int)) (ks:List Int) (v:Int) (i j:Nat) (u:Value),qT l ks i=some (j,u)->i<=j/\(∃e,(bx s l i)[j - i]? =some e/\e.key=jR s ks)/\(bx s l i).modify (j - i) (fun e=>{e with key:=jR s ks,val:= .int .i64 v})=bx s (nd l ks v) i/\(nd l ks v).length=l.length
 |[],_,_,_,_,_,h=>by cases h
 |(k,x)::l,ks,v,i,j,u,h=>by
  unfold qT at h;by_cases hk:k=ks
  ·rw[ah hk]at h;cases h;subst hk;refine⟨XA _,⟨_,by rw[YE];rfl,rfl⟩,?_,?_⟩
   ·rw[YE];simp[bx,nd]
   ·simp[nd]
  ·rw[af hk]at h;obtain⟨h1,⟨e,h2,h3⟩,h4,h5⟩:=Az s l ks v (i+1) j u h;have hj:j - i=(j - (i+1))+1:=aa;refine⟨by omega,⟨e,by rw[hj];simpa[bx]using h2,h3⟩,?_,?_⟩
   ·rw[hj];unfold nd;rw[af hk];simp only[bx,List.modify_succ_cons];rw[h4]
   ·unfold nd;rw[af hk];simp[h5]
theorem AA (s:Bool):∀(l:List (List Int × Int)) (ks:List Int) (v:Int) (i:Nat),qT l ks i=none->bx s (nd l ks v) i=bx s l i++[{key:=jR s ks,val:= .int .i64 v,born:=i+l.length}]/\(nd l ks v).length=l.length+1
 |[],_,_,_,_=>⟨rfl,rfl⟩
 |(k,x)::l,ks,v,i,h=>by
  unfold qT at h;by_cases hk:k=ks
  ·rw[ah hk]at h;cases h
  ·rw[af hk]at h;obtain⟨h1,h2⟩:=AA s l ks v (i+1) h;unfold nd;rw[af hk];simp only[bx,h1,X5,XC,h2,and_true];rw[show i+1+l.length=i+(l.length+1) by omega]
structure KeyOK (P:Program)(k n:Nat)(s:Bool):Prop where
 chk:∀(em:Bool) (w:World) (xs:List Int),xs.length=n->(Instr.checkKey em 10000 k (jR s xs)).run P w= .ok () w
 fnd:∀(w:World) (ents:List (List Int × Int)) (xs:List Int),(∀kv∈ents,kv.1.length=n)->xs.length=n->(Instr.findKey k (jR s xs) (bx s ents 0)).run P w= .ok (qT ents xs 0) w
structure MapOK (P:Program)(t n:Nat)(s:Bool):Prop where
 ex:∃k e i,P.underlying t=some (.map k e)/\P.info? e=some i/\i.zero=some (.int .i64 0)/\KeyOK P k n s
theorem Gl {xs:List Int}(h:xs.length=1):∃a,xs=[a]:=by
 match xs,h with
 |[a],_=>exact⟨a,rfl⟩
theorem JF {P:Program}{k:Nat}(hk:P.underlying k=some (.int .i64)):KeyOK P k 1 false:=by
 refine⟨fun em w xs hx=>?_,fun w ents xs hn hx=>?_⟩
 ·obtain⟨a,rfl⟩:=Gl hx;exact MapKept.run_checkKey hk (by simp[jR,MapKept.IsKey]) em 9999
 ·obtain⟨a,rfl⟩:=Gl hx;refine MapKept.run_findKey hk ?_;have:∀(l:List (List Int × Int)) (i:Nat),(∀kv∈l,kv.1.length=1)->Instr.findNow (.int .i64) (.int .i64 a) (bx false l i) i=some (qT l [a] i):=by
   intro l;induction l with
   |nil=>intro i _;rfl
   |cons kv l ih=>
    intro i hl;obtain⟨k,v⟩:=kv;obtain⟨c,rfl⟩:=Gl (hl (k,v) ak);have ih:=ih (i+1) (fun kv h=>hl kv (by simp[h]));by_cases h:c=a
    ·subst h;simp[bx,qT,Instr.findNow,Instr.sameNow,jR]
    ·have h':(a==c)=false:=by simpa using fun e=>h e.symm
     simp[bx,qT,Instr.findNow,Instr.sameNow,jR,h,ih];rw[h']
  exact this ents 0 hn
theorem Mn {P:Program}{k n:Nat}(hw:(match P.underlying k with|some (.array _ _)|some (.struct _)=>true|_=>false)=true)(hc:∀(em:Bool) (w:World) (xs:List Int),xs.length=n->(Instr.checkKey em 10000 k (jR true xs)).run P w= .ok () w)
 (he:∀(w:World) (xs ys:List Int),xs.length=n->ys.length=n->(Op.equal k (jR true xs) (jR true ys)).run P w= .ok (xs==ys) w):KeyOK P k n true:=by
 refine⟨hc,fun w ents xs hn hx=>?_⟩;rw[run_findKey_eq w hw];have:∀(l:List (List Int × Int)) (i:Nat),(∀kv∈l,kv.1.length=n)->(Instr.findAsking k (jR true xs) (bx true l i) i).run P w= .ok (qT l xs i) w:=by
  intro l;induction l with
  |nil=>intro i _;rfl
  |cons kv l ih=>
   intro i hl;obtain⟨k',v⟩:=kv;have ih:=ih (i+1) (fun kv h=>hl kv (by simp[h]));have h0:=he w xs k' hx (hl (k',v) ak);simp only[bx,Instr.findAsking];rw[Sem.run_bind,h0];simp only[Result.andThen,qT];by_cases h:k'=xs
   ·subst h;simp
   ·have h':(xs==k')=false:=by simpa using fun e=>h e.symm
    rw[h',af h];exact ih
 exact this ents 0 hn
theorem AB {P:Program}{t k e:Nat}(ht:P.underlying t=some (.map k e))(hk:P.underlying k=some (.int .i64))(hz:(P.info? e).map (·.zero)=some (some (.int .i64 0))):MapOK P t 1 false:=by
 obtain⟨i,hi,hz⟩:=XB.1 hz;exact⟨k,e,i,ht,hi,hz,JF hk⟩
theorem Gm {P:Program}{t n b:Nat}{s:Bool}(hm:MapOK P t n s){w:World}{ents:List (List Int × Int)}(hb:w.heap[b]? =some (.map (bx s ents 0).toArray ents.length))(hn:∀kv∈ents,kv.1.length=n){xs:List Int}(hx:xs.length=n)(ok:Bool):
 (Instr.lookup t (.map (some b)) (jR s xs) ok).run P w= .ok (if ok then .tuple #[.int .i64 ((lB ents xs).getD 0),.bool (lB ents xs).isSome]else .int .i64 ((lB ents xs).getD 0)) w:=by
 obtain⟨k,e,i,ht,hi,hz,hk⟩:=hm.ex;have hl:=H9 ents xs 0;unfold Instr.lookup;simp only[Sem.run_bind,run_underlying ht,Result.andThen,MapKept.run_getObj_map hb,Sem.run_pure,hk.chk _ _ _ hx,hk.fnd _ _ _ hn hx];cases hf:qT ents xs 0 with
 |none=>
  rw[hf]at hl;have hl':lB ents xs=none:=by
   cases h:lB ents xs with
   |none=>rfl
   |some v=>rw[h]at hl;cases hl
  rw[hl'];simp only[Sem.run_bind,zeroValue,typeInfo,run_program,hi,hz,Result.andThen,Sem.run_pure];cases ok<;>rfl
 |some iv=>
  rw[hf]at hl;cases h:lB ents xs with
  |none=>rw[h]at hl;cases hl
  |some v=>
   rw[h]at hl;simp only[Yb,XU.injEq]at hl;simp only[Sem.run_pure,Result.andThen,hl];cases ok<;>rfl
theorem BQ (s:Bool)(xs:List Int):Instr.sameBits 10000 (jR s xs) (jR s xs)=true:=by
 cases s with
 |false=>simp[jR,Instr.sameBits]
 |true=>
  have:∀(l:List Int),((l.map (Value.int .i64)).zip (l.map (Value.int .i64))).all (fun(x,y)=>Instr.sameBits 9999 x y)=true:=by
   intro l;induction l with
   |nil=>rfl
   |cons a l ih=>simp only[Xl,List.zip_cons_cons,List.all_cons,ih,Yx];simp[Instr.sameBits]
  simp only[jR,if_true,Instr.sameBits,beq_self_eq_true,Yp];exact this xs
theorem zA {P:Program}{t n b:Nat}{s:Bool}(hm:MapOK P t n s){w:World}{ents:List (List Int × Int)}(hb:w.heap[b]? =some (.map (bx s ents 0).toArray ents.length))(hn:∀kv∈ents,kv.1.length=n){xs:List Int}(hx:xs.length=n)(v:Int):
 (Instr.mapUpdate t (.map (some b)) (jR s xs) (.int .i64 v)).run P w= .ok () {w with heap:=w.heap.setIfInBounds b (.map (bx s (nd ents xs v) 0).toArray (nd ents xs v).length)}:=by
 obtain⟨k,e,i,ht,hi,hz,hk⟩:=hm.ex;unfold Instr.mapUpdate;simp only[Sem.run_bind,run_underlying ht,Result.andThen,MapKept.run_getObj_map hb,hk.chk _ _ _ hx,hk.fnd _ _ _ hn hx];cases hf:qT ents xs 0 with
 |none=>
  obtain⟨h1,h2⟩:=AA s ents xs v 0 hf;simp only[MapKept.run_setObj_map _ hb];rw[h1,h2];simp
 |some iv=>
  obtain⟨j,u⟩:=iv;obtain⟨-,⟨e0,h2,h3⟩,h4,h5⟩:=Az s ents xs v 0 j u hf;rw[Zs]at h2 h4;have h6:(bx s ents 0).toArray[j]? =some e0:=by simpa using h2
  simp only[Sem.run_bind,h6,Yb,YD,h3,Instr.keyThatStays,BQ,if_true,Sem.run_pure,Result.andThen,MapKept.run_setObj_map _ hb];rw[h5,<-h4];simp
def Gn (s:Bool)(p:PV):Option (List Int):=
 match s,p with
 |false,.d (.v (.int .i64 a))=>some [a]
 |true,.d (.agg ds)=>qB ds
 |_,_=>none
theorem DB [Flo]{c:Cx}{w:World}{s:Bool}{p:PV}{xs:List Int}{v:Value}(h:Gn s p=some xs)(hr:RepP c w p v):v=jR s xs:=by
 unfold Gn at h;split at h
 ·cases h;cases hr with|d _ _ hd=>cases hd;rfl
 ·cases hr with
  |d _ _ hd=>
   cases hd with
   |agg _ vs hl h1 aU=>
    rw[r6 (xs:=xs) ⟨hl,aU⟩ h];simp[jR]
 ·cases h
theorem RealC.new_map [Flo]{X:Cfg}{s:FS}{a:Act}{w:World}{c:Cx}(h:RealC X s a w c){k:Nat}(hk:s.heap k= .none)(vL:¬k < X.m)(n:Nat)(sB:Bool):
 ∃c',RealC X {s with heap:=cw [(k,.mp n sB [])] s.heap} a (w.alloc (.map #[] 0)) c'/\RepP c' (w.alloc (.map #[] 0)) (.mref k) (.map (some w.heap.size)):=by
 have bo:=h.chunk k;rw[hk]at bo;cases bo with
 |none qq WO=>
  have hx:=j4 w (.map #[] 0);have bW:(fun k'=>if k'=k then some w.heap.size else c.bl k') k=some w.heap.size:=ah rfl;refine⟨{M:=fun b=>c.M b\/b=w.heap.size,bl:=fun k'=>if k'=k then some w.heap.size else c.bl k',ov:=c.ov},?_,.mref k _ bW⟩;have hle:c.le {M:=fun b=>c.M b\/b=w.heap.size,bl:=fun k'=>if k'=k then some w.heap.size else c.bl k',ov:=c.ov}:=
   ⟨fun k' b hb=>by
    have:k'≠k:=fun e=>by subst e;rw[qq]at hb;cases hb
    show (if k'=k then some w.heap.size else c.bl k')=some b;rw[af this];exact hb,fun _ _ _ h=>h⟩
  refine h.new_chunk hk vL hx hle (fun k' bG=>af bG) (fun _ _=>rfl) (fun b=>?_) (fun b hb=>?_) (fun mo=>?_)
  ·exact a2A
  ·exact a3r
  ·exact .mp n sB [] w.heap.size bW (by simpa[bx]using jt w (.map #[] 0)) (fun _ h=>by simp at h)
theorem RealC.set_map [Flo]{X:Cfg}{s:FS}{a:Act}{w:World}{c:Cx}(h:RealC X s a w c){k n b:Nat}{sB:Bool}{ents ents':List (List Int × Int)}(hk:s.heap k= .mp n sB ents)(hb:c.bl k=some b)(hh:w.heap[b]? =some (.map (bx sB ents 0).toArray ents.length))
 (hn:∀kv∈ents',kv.1.length=n):RealC X {s with heap:=cw [(k,.mp n sB ents')] s.heap} a {w with heap:=w.heap.setIfInBounds b (.map (bx sB ents' 0).toArray ents'.length)} c:=by
 have cu:c.block k (s.heap k)=some b:=by rw[hk];exact hb
 have dN:=MapKept.heap_set (o':= .map (bx sB ents' 0).toArray ents'.length) hh;refine h.turn c.le_refl rfl (fun _ _=>rfl) (fun _ _=>rfl) rfl rfl rfl ak (fun b' _ hb'=>dN.2 b' (fun e=>hb' (by rw[e];exact cu))) (fun b'=>?_) (fun b' hb'=>?_) (fun mo=>?_)
 ·exact a2a
 ·exact a2P
 ·exact .mp n sB ents' b hb dN.1 hn
section
variable {X:Cfg}{ops:Array Oper}{s:FS}{o:Oper}(hd:∀d,o.dst=some d->d < X.n)
include hd
theorem Gp [Flo]{t nk n:Nat}{sB:Bool}(ho:o.op= .makeMap t none)(hk:s.heap nk= .none)(vL:¬nk < X.m):bH X ops s o {pv:= .mref nk,eff:=[(nk,.mp n sB [])],touch:=[nk]}:=
 d9 hd (fun kc h=>by simp at h;subst h;simp) fun s' he iH a w c hc=>by
  obtain⟨c',h1,h2⟩:=hc.new_map (k:=nk) (by rw[iH nk ak];exact hk) vL n sB;refine⟨_,_,_,?_,.inl rfl,c',h1,h2⟩;simp only[execOp,ho,Zf];rw[Sem.run_bind,run_makeMap];rfl
theorem JG [Flo]{t k n:Nat}{sB ok:Bool}{m x:Operand}{ents:List (List Int × Int)}{xs:List Int}(ho:o.op= .lookup t m x ok)(hm:MapOK X.P t n sB)(WV:ev s m= .mref k)(hk:s.heap k= .mp n sB ents)(hx:Gn sB (ev s x)=some xs)(hxn:xs.length=n):
 bH X ops s o {pv:=if ok then .d (.tup [.v (.int .i64 ((lB ents xs).getD 0)),.v (.bool (lB ents xs).isSome)])else .d (.v (.int .i64 ((lB ents xs).getD 0))),touch:=[k]}:=
 aM hd fun s' he iH a w c hc=>by
  have e1:=bI hc m;rw[he m (by simp[ho,Op.operands]),WV]at e1;have e2:=bI hc x;rw[he x (by simp[ho,Op.operands])]at e2;have e3:=DB hx e2;have hk':s'.heap k= .mp n sB ents:=by rw[iH k ak];exact hk
  have bo:=hc.chunk k;rw[hk']at bo;generalize hu:a.eval m=u at e1;cases e1 with
  |mref _ b hb=>
   cases bo with
   |mp _ _ _ b' hb' hh hn=>
    rw[hb]at hb';cases hb';have cg:=Gm hm hh hn hxn ok;refine⟨if ok then .tuple #[.int .i64 ((lB ents xs).getD 0),.bool (lB ents xs).isSome]else .int .i64 ((lB ents xs).getD 0),?_,?_⟩
    ·simp only[execOp,ho,hu,e3];rw[Sem.run_bind,cg];rfl
    ·cases ok with
     |false=>exact .d _ _ (.v _)
     |true=>
      refine .d _ _ (.tup _ [_,_] rfl ?_);intro j d y h1 h2;match j with
      |0=>simp at h1 h2;subst h1;subst h2;exact .v _
      |1=>simp at h1 h2;subst h1;subst h2;exact .v _
      |j+2=>simp at h1
theorem BR [Flo]{t k n:Nat}{sB:Bool}{m x y:Operand}{ents:List (List Int × Int)}{xs:List Int}{v:Int}(ho:o.op= .mapUpdate t m x y\/o.op= .insert t m x y)(pW:o.dst=none)(hm:MapOK X.P t n sB)(WV:ev s m= .mref k)(hk:s.heap k= .mp n sB ents)(hx:Gn sB (ev s x)=some xs)(hxn:xs.length=n)
 (hy:ev s y= .d (.v (.int .i64 v))):bH X ops s o {pv:= .any,eff:=[(k,.mp n sB (nd ents xs v))],touch:=[k]}:=
 d9 hd (fun kc h=>by simp at h;subst h;simp) fun s' he iH a w c hc=>by
  have dM:m∈o.op.operands/\x∈o.op.operands/\y∈o.op.operands:=by rcases ho with ho|ho<;>simp[ho,Op.operands]
  have e1:=bI hc m;rw[he m dM.1,WV]at e1;have e2:=bI hc x;rw[he x dM.2.1]at e2;have e3:=DB hx e2;have e4:=bI hc y;rw[he y dM.2.2,hy]at e4;have hk':s'.heap k= .mp n sB ents:=by rw[iH k ak];exact hk
  have bo:=hc.chunk k;rw[hk']at bo;generalize hu:a.eval m=u at e1;generalize hv:a.eval y=vy at e4;cases e4 with
  |d _ _ e4=>
  cases e4;cases e1 with
  |mref _ b hb=>
   cases bo with
   |mp _ _ _ b' hb' hh hn=>
    rw[hb]at hb';cases hb';have cg:=zA hm hh hn hxn v;have h3:=hc.set_map hk' hb hh (H8 (v:=v) hn hxn);refine⟨.skip,undef,_,?_,.inr ⟨rfl,rfl⟩,c,h3,.any _⟩;rcases ho with ho|ho
    ·exact a4S
    ·exact a4S
end
theorem a2c {p:Prop}(h:p:=by
 have h0:=bI hc fo;rw[uK fo (.inl rfl)]at h0;rcases hf with hf|⟨cd,hf,rfl⟩
 ·rw[hf]at h0;generalize a.eval fo=u at h0;cases h0 with
  |clo _ _ vs hl aU=>exact⟨vs,rfl,hl,aU⟩
 ·rw[hf]at h0;generalize a.eval fo=u at h0;have h0:=ck h0;cases h0 with
  |clo _ _ vs hl aU=>
   refine⟨vs,rfl,by simpa using hl,fun j p x hj hx=>?_⟩;simp only[Xr,XB]at hj;obtain⟨y,hy,rfl⟩:=hj;exact .d _ _ (aU j y x hy hx)):p:=h
theorem a2d {p:Prop}(h:p:=by
 have key:∀q∈caps,br h' n q=br h n q/\cW h' n q=cW h n q:=fun q hq=>fT n q fun k' hk'=>e k' (go hq k' hk');simp only[br,cW];rw[gU fun q hq=>(key q hq).1,j7 fun q hq=>(key q hq).2];exact⟨rfl,rfl⟩):p:=h
theorem a2x {p:Prop}(h:p:=by
 rw[XW (by simpa using hlt)]at hp hx;simp only[Xr,XB]at hp hx;obtain⟨y,hy,rfl⟩:=hp;obtain⟨y',hy',rfl⟩:=hx;rw[hy]at hy';cases hy';have:=bI hc y;rwa [uK y (.inr (by simpa using Xk hy))]at this):p:=h
theorem a2G {p:Prop}(h:p:=by
 cases n with
 |zero=>cases hv
 |succ n=>
  simp only[br]at hv;split at hv
  ·split at hv
   ·simp only[XB]at hv;obtain⟨_,_,rfl⟩:=hv;rfl
   ·cases hv
  ·cases hv):p:=h
theorem a4a {p:Prop}(h:p:=by
 rw[XI (by simpa using hlt)]at hp hx;simp only[Xs]at hp hx;exact HN _ p x hp hx):p:=h
def zB (P:Program)(f:Nat):Prop:=∀(args:Array Value) (w:World),(callFunc f args).run P w= .ok (.enter f args) w
def ai [Flo](P:Program)(f:Nat)(args:List D)(r:D):Prop:=
 zB P f/\∀(M:Nat->Prop) (w:World) (vs:List Value),(∀b,M b->b < w.heap.size)->BF M w->cj M w args vs->Calls P f vs.toArray w fun e w'=>∃v,e= .returned v/\RepD M w' r v/\dy w w'
def D.isV:D->Bool
 | .v _=>true
 |_=>false
def D.flat:D->Bool
 | .v _=>true
 | .agg l=>l.all D.isV
 | .tup l=>l.all fun d=>match d with| .v _=>true| .agg l=>l.all D.isV|_=>false
 |_=>false
theorem Ia [Flo]{M M':Nat->Prop}{w w':World}{d:D}{v:Value}(h:RepD M w d v)(hf:d.isV=true):RepD M' w' d v:=by
 cases d<;>simp[D.isV]at hf;cases h;exact .v _
theorem Mo [Flo]{M M':Nat->Prop}{w w':World}{d:D}{v:Value}(h:RepD M w d v)(hf:d.flat=true):RepD M' w' d v:=by
 cases h with
 |v=>exact .v _
 |agg cells vs hl h1 aU=>
  simp only[D.flat,XD]at hf;exact .agg cells vs hl h1 fun j d x hj hx=>Ia (aU j d x hj hx) (hf d (Xk hj))
 |tup ds vs hl aU=>
  simp only[D.flat,XD]at hf;refine .tup ds vs hl fun j d x hj hx=>?_;have h0:=aU j d x hj hx;have h1:=hf d (Xk hj);cases h0 with
  |v=>exact .v _
  |agg cells us hl' h1' pX=>
   simp only[XD]at h1;exact .agg cells us hl' h1' fun j d x hj hx=>Ia (pX j d x hj hx) (h1 d (Xk hj))
  |_=>simp at h1
 |_=>simp[D.flat]at hf
def cI (f:PV->Option D):List PV->Option (List D)
 |[]=>some []
 |p::l=>match f p,cI f l with|some d,some ds=>some (d::ds)|_,_=>none
def dk (f:PV->Option D):List (List PV)->Option (List (List D))
 |[]=>some []
 |r::l=>match cI f r,dk f l with|some d,some ds=>some (d::ds)|_,_=>none
def br (h:Nat->Chunk):Nat->PV->Option D
 |_,.d x=>some x
 |n+1,.own k g=>match h k with| .row _ sz g' rows=>if g=g' then (dk (br h n) rows).map (.sl sz)else none|_=>none
 |n+1,.ptr k off=>match h k with| .box _ cells=>(cI (br h n) (cells.drop off)).map .ept|_=>none
 |n+1,.rp k g sz i j=>match h k with| .row _ sz' g' rows=>if g=g'/\sz=sz' then (match rows[i]? with|some row=>(cI (br h n) (row.drop j)).map .ept|none=>none)else none|_=>none
 |n+1,.osl k g sz a m=>match h k with| .row _ sz' g' rows=>if g=g'/\sz=sz'/\0 < rows.length then (dk (br h n) ((rows.drop a).take m)).map (.sl sz)else none|_=>none
 |n+1,.clo g caps=>(cI (br h n) caps).map (.clo g)
 |n+1,.agg cells=>(cI (br h n) cells).map .agg
 |n+1,.tup l=>(cI (br h n) l).map .tup
 |_,_=>none
def j6 (f:PV->List Nat):List PV->List Nat
 |[]=>[]
 |p::l=>f p++j6 f l
def zC (f:PV->List Nat):List (List PV)->List Nat
 |[]=>[]
 |r::l=>j6 f r++zC f l
def cW (h:Nat->Chunk):Nat->PV->List Nat
 |_,.d _=>[]
 |n+1,.own k _=>k::(match h k with| .row _ _ _ rows=>zC (cW h n) rows|_=>[])
 |n+1,.ptr k off=>k::(match h k with| .box _ cells=>j6 (cW h n) (cells.drop off)|_=>[])
 |n+1,.rp k _ _ i j=>k::(match h k with| .row _ _ _ rows=>j6 (cW h n) (((rows[i]?).getD []).drop j)|_=>[])
 |n+1,.osl k _ _ _ _=>k::(match h k with| .row _ _ _ rows=>zC (cW h n) rows|_=>[])
 |n+1,.clo _ caps=>j6 (cW h n) caps
 |n+1,.agg cells=>j6 (cW h n) cells
 |n+1,.tup l=>j6 (cW h n) l
 |_,_=>[]
theorem nV (h:Nat->Chunk)(n:Nat)(x:D):br h n (.d x)=some x:=by cases n<;>rfl
theorem Mp (h:Nat->Chunk)(n:Nat)(x:D):cW h n (.d x)=[]:=by cases n<;>rfl
theorem wn (h:Nat->Chunk)(n:Nat):∀(l:List D),cI (br h n) (l.map .d)=some l
 |[]=>rfl
 |x::l=>by simp only[Xl,cI,nV,wn h n l]
theorem BS (h:Nat->Chunk)(n:Nat):∀(l:List D),j6 (cW h n) (l.map .d)=[]
 |[]=>rfl
 |x::l=>by simp only[Xl,j6,Mp,BS h n l,Yv]
theorem eL (h:Nat->Chunk)(n:Nat):∀(l:List (List D)),dk (br h n) (ab l)=some l
 |[]=>rfl
 |x::l=>by
  have:=eL h n l;simp only[ab]at this;simp only[ab,Xl,dk,wn,this]
theorem nW (h:Nat->Chunk)(n:Nat):∀(l:List (List D)),zC (cW h n) (ab l)=[]
 |[]=>rfl
 |x::l=>by
  have:=nW h n l;simp only[ab]at this;simp only[ab,Xl,zC,BS,this,Yv]
theorem go {f:PV->List Nat}:∀{l:List PV}{p:PV},p∈l->∀k∈f p,k∈j6 f l
 |q::l,p,h,k,hk=>by
  rcases XY.1 h with rfl|h
  ·exact ZS _ hk
  ·exact List.mem_append_right _ (go h k hk)
theorem ph {f:PV->List Nat}:∀{l:List (List PV)}{r:List PV}{p:PV},r∈l->p∈r->∀k∈f p,k∈zC f l
 |q::l,r,p,h,hp,k,hk=>by
  rcases XY.1 h with rfl|h
  ·exact ZS _ (go hp k hk)
  ·exact List.mem_append_right _ (ph h hp k hk)
theorem gU {f f':PV->Option D}:∀{l:List PV},(∀p∈l,f' p=f p)->cI f' l=cI f l
 |[],_=>rfl
 |p::l,e=>by simp only[cI,e p ak,gU (l:=l) fun q hq=>e q (by simp[hq])]
theorem qU {f f':PV->Option D}:∀{l:List (List PV)},(∀r∈l,∀p∈r,f' p=f p)->dk f' l=dk f l
 |[],_=>rfl
 |r::l,e=>by simp only[dk,gU (e r ak),qU (l:=l) fun q hq=>e q (by simp[hq])]
theorem j7 {f f':PV->List Nat}:∀{l:List PV},(∀p∈l,f' p=f p)->j6 f' l=j6 f l
 |[],_=>rfl
 |p::l,e=>by simp only[j6,e p ak,j7 (l:=l) fun q hq=>e q (by simp[hq])]
theorem tQ {f f':PV->List Nat}:∀{l:List (List PV)},(∀r∈l,∀p∈r,f' p=f p)->zC f' l=zC f l
 |[],_=>rfl
 |r::l,e=>by simp only[zC,j7 (e r ak),tQ (l:=l) fun q hq=>e q (by simp[hq])]
theorem fT {h h':Nat->Chunk}:∀(n:Nat) (p:PV),(∀k∈cW h n p,h' k=h k)->br h' n p=br h n p/\cW h' n p=cW h n p
 |0,p,_=>by cases p<;>exact⟨rfl,rfl⟩
 |n+1,p,e=>by
  cases p with
  |own k g=>
   have hk:=e k (by simp[cW]);simp only[br,cW,hk];cases hb:h k with
   |row E sz g' rows=>
    have key:∀r∈rows,∀q∈r,br h' n q=br h n q/\cW h' n q=cW h n q:=fun r hr q hq=>fT n q fun k' hk'=>e k' (by
     simp only[cW,hb,XY];exact .inr (ph hr hq k' hk'))
    simp only;rw[qU fun r hr q hq=>(key r hr q hq).1,tQ fun r hr q hq=>(key r hr q hq).2];exact⟨rfl,rfl⟩
   |_=>exact⟨rfl,rfl⟩
  |ptr k off=>
   have hk:=e k (by simp[cW]);simp only[br,cW,hk];cases hb:h k with
   |box T cells=>
    have key:∀q∈cells.drop off,br h' n q=br h n q/\cW h' n q=cW h n q:=fun q hq=>fT n q fun k' hk'=>e k' (by
     simp only[cW,hb,XY];exact .inr (go hq k' hk'))
    simp only;rw[gU fun q hq=>(key q hq).1,j7 fun q hq=>(key q hq).2];exact⟨rfl,rfl⟩
   |_=>exact⟨rfl,rfl⟩
  |rp k g sz i j=>
   have hk:=e k (by simp[cW]);simp only[br,cW,hk];cases hb:h k with
   |row E sz' g' rows=>
    have key:∀q∈((rows[i]?).getD []).drop j,br h' n q=br h n q/\cW h' n q=cW h n q:=fun q hq=>fT n q fun k' hk'=>e k' (by
     simp only[cW,hb,XY];exact .inr (go hq k' hk'))
    simp only;refine⟨?_,by rw[j7 fun q hq=>(key q hq).2]⟩;cases Jh:rows[i]? with
    |none=>rfl
    |some row=>
     rw[Jh]at key;simp only[YD]at key;simp only;rw[gU fun q hq=>(key q hq).1]
   |_=>exact⟨rfl,rfl⟩
  |osl k g sz a m=>
   have hk:=e k (by simp[cW]);simp only[br,cW,hk];cases hb:h k with
   |row E sz g' rows=>
    have key:∀r∈rows,∀q∈r,br h' n q=br h n q/\cW h' n q=cW h n q:=fun r hr q hq=>fT n q fun k' hk'=>e k' (by
     simp only[cW,hb,XY];exact .inr (ph hr hq k' hk'))
    simp only;rw[qU (l:=(rows.drop a).take m) fun r hr q hq=>(key r (Yd (Yf hr)) q hq).1,tQ fun r hr q hq=>(key r hr q hq).2];exact⟨rfl,rfl⟩
   |_=>exact⟨rfl,rfl⟩
  |clo g caps=>exact a2d
  |agg caps=>exact a2d
  |tup caps=>exact a2d
  |_=>exact⟨rfl,rfl⟩
def li (c:Cx)(h:Nat->Chunk)(T:List Nat)(b:Nat):Prop:=c.M b/\∀k∈T,c.block k (h k)≠some b
theorem tT (c:Cx)(h:Nat->Chunk)(T:List Nat)(w:World):Keep c.M w (li c h T) w:=⟨XA _,fun _ _ _=>rfl,fun _ _ h=>h.1⟩
theorem fF {f:PV->Option D}:∀{l:List PV}{ds:List D},cI f l=some ds->l.length=ds.length/\∀(j:Nat) (d:D),ds[j]? =some d->∃p,l[j]? =some p/\f p=some d
 |[],ds,h=>by simp[cI]at h;subst h;simp
 |p::l,ds,h=>by
  simp only[cI]at h;split at h
  ·rename_i d es h1 h2;cases h;obtain⟨q1,q2⟩:=fF h2;refine⟨by simp[q1],fun j e hj=>?_⟩;cases j with
   |zero=>simp at hj;subst hj;exact⟨p,rfl,h1⟩
   |succ j=>simpa using q2 j e (by simpa using hj)
  ·cases h
theorem wR {f:PV->Option D}:∀{l:List (List PV)}{ds:List (List D)},dk f l=some ds->l.length=ds.length/\∀(j:Nat) (d:List D),ds[j]? =some d->∃p,l[j]? =some p/\cI f p=some d
 |[],ds,h=>by simp[dk]at h;subst h;simp
 |p::l,ds,h=>by
  simp only[dk]at h;split at h
  ·rename_i d es h1 h2;cases h;obtain⟨q1,q2⟩:=wR h2;refine⟨by simp[q1],fun j e hj=>?_⟩;cases j with
   |zero=>simp at hj;subst hj;exact⟨p,rfl,h1⟩
   |succ j=>simpa using q2 j e (by simpa using hj)
  ·cases h
theorem nf {h:Nat->Chunk}{n:Nat}{p:PV}{d:D}(hv:br h n p=some d)(h1:p.one=true):d.one=true:=by
 cases p with
 |d x=>rw[nV]at hv;cases hv;exact h1
 |agg=>simp[PV.one]at h1
 |tup=>simp[PV.one]at h1
 |any=>simp[PV.one]at h1
 |own k g=>exact a2G
 |ptr k off=>
  cases n with
  |zero=>cases hv
  |succ n=>
   simp only[br]at hv;split at hv
   ·simp only[XB]at hv;obtain⟨_,_,rfl⟩:=hv;rfl
   ·cases hv
 |rp k g sz i j=>
  cases n with
  |zero=>cases hv
  |succ n=>
   simp only[br]at hv;split at hv
   ·split at hv
    ·split at hv
     ·simp only[XB]at hv;obtain⟨_,_,rfl⟩:=hv;rfl
     ·cases hv
    ·cases hv
   ·cases hv
 |clo g caps=>
  cases n with
  |zero=>cases hv
  |succ n=>simp only[br,XB]at hv;obtain⟨_,_,rfl⟩:=hv;rfl
 |osl k g sz a m=>exact a2G
 |mref=>cases n<;>cases hv
theorem ng {w:World}{b:Nat}{o:Obj}(h:w.heap[b]? =some o):b < w.heap.size:=by
 rcases XL b w.heap.size with hl|hl
 ·exact hl
 ·rw[YJ hl]at h;cases h
section
variable [Flo]{X:Cfg}{s:FS}{a:Act}{w:World}{c:Cx}(hc:RealC X s a w c){T:List Nat}
include hc
theorem jv:∀(n:Nat) {p:PV}{d:D}{v:Value},br s.heap n p=some d->(∀k∈cW s.heap n p,k∈T)->RepP c w p v->RepD (li c s.heap T) w d v
 |0,p,d,v,hv,ht,hr=>by
  cases p with
  |d x=>cases hv;exact(ck hr).keep (tT c s.heap T w)
  |_=>cases hv
 |n+1,p,d,v,hv,ht,hr=>by
  have many:∀(l:List PV) (ds:List D) (vs:List Value),cI (br s.heap n) l=some ds->(∀k∈j6 (cW s.heap n) l,k∈T)->bA c w l vs->cj (li c s.heap T) w ds vs:=by
   intro l ds vs fD hT hl;obtain⟨q1,q2⟩:=fF fD;refine⟨by rw[<-q1];exact hl.1,fun j d x hj hx=>?_⟩;obtain⟨p,hp,y7⟩:=q2 j d hj;exact jv n y7 (fun k hk=>hT k (go (Xk hp) k hk)) (hl.2 j p x hp hx)
  cases p with
  |d x=>rw[nV]at hv;cases hv;exact(ck hr).keep (tT c s.heap T w)
  |own k g=>
   simp only[br]at hv;split at hv
   ·rename_i E sz g' rows hk;split at hv
    ·rename_i e;subst e;simp only[XB]at hv;obtain⟨drows,fD,rfl⟩:=hv;obtain⟨q1,q2⟩:=wR fD;have bo:=hc.chunk k;rw[hk]at bo;have hkT:k∈T:=ht k (by simp[cW]);have yZ:∀r∈rows,∀p∈r,∀k'∈cW s.heap n p,k'∈T:=fun r hr p hp k' hk'=>ht k' (by
      simp only[cW,hk,XY];exact .inr (ph hr hp k' hk'))
     cases hr with
     |own _ _ _ ec _=>
      cases bo with
      |row _ _ _ _ u xs hu df oR cK h1 hg=>
       rw[ec]at hu;cases hu;generalize hn:rows.length=n' at df;have nilc:n'=0->drows=[]:=fun h0=>X9 aa;cases df with
       |nil=>rw[nilc rfl];exact .nil sz none 0 aa
       |zero ad=>rw[nilc rfl];exact .nil sz (some ad) 0 aa
       |row gb _ cap cur _ h0 hh LX hm hs hl iV=>
        subst hn;have Pf:∀j,j < rows.length*sz->cur[j]? =xs[j]? :=by
         intro j hj;rw[<-iV,XP hj,X6]
        rw[q1];refine .sl sz drows gb 0 cap (fun i j=>xs.getD (i*sz+j) undef) (fun hm'=>hm'.2 k hkT (by rw[hk];simp[Cx.block,ec,dr h0])) (ng hh) aa (by simpa[maxLen]using hm) (fun r hr=>?_) (fun r hr d hd=>?_) (fun i j hi hj=>?_) (fun i j row d hi hj=>?_) (fun _=>⟨_,_,hh⟩)
        ·obtain⟨j,hj,e⟩:=X7 hr;obtain⟨p,hp,y7⟩:=q2 j r (by rw[<-e];exact Xj hj);rw[<-(fF y7).1];exact cK p (Xk hp)
        ·obtain⟨j,hj,e⟩:=X7 hr;obtain⟨p,hp,y7⟩:=q2 j r (by rw[<-e];exact Xj hj);obtain⟨j2,L0,e2⟩:=X7 hd;obtain⟨p2,Ji,HM⟩:=(fF y7).2 j2 d (by rw[<-e2];exact Xj L0);exact nf HM (h1 p (Xk hp) p2 (Xk Ji))
        ·have hij:i*sz+j < rows.length*sz:=by
          have:(i+1)*sz<=rows.length*sz:=Yt sz aa;rw[YX]at this;omega
         rw[Xw];simp only[YL,hh,Pf _ hij];simp[XJ,Xj (show i*sz+j < xs.length by omega)]
        ·obtain⟨p,hp,y7⟩:=q2 i row hi;obtain⟨p2,Ji,HM⟩:=(fF y7).2 j d hj;have hi':i < rows.length:=(Xm.1 hp).1;have hj':j < sz:=by rw[<-cK p (Xk hp)];exact(Xm.1 Ji).1
         have hij:i*sz+j < rows.length*sz:=by
          have:(i+1)*sz<=rows.length*sz:=Yt sz hi';rw[YX]at this;omega
         have hx:xs[i*sz+j]? =some xs[i*sz+j]:=Xj aa;have:=oR.2 (i*sz+j) p2 _ (by rw[cA cK i j hj',hp];exact Ji) hx;have:=jv n HM (yZ p (Xk hp) p2 (Xk Ji)) this;simpa[XJ,hx]using this
    ·cases hv
   ·cases hv
  |ptr k off=>
   simp only[br]at hv;split at hv
   ·rename_i TT cells hk;simp only[XB]at hv;obtain⟨ds,fD,rfl⟩:=hv;have bo:=hc.chunk k;rw[hk]at bo;cases hr with
    |ptr _ _ b hb=>
     cases bo with
     |box _ _ b' vs hb' hh oR h1=>
      rw[hb]at hb';cases hb';have F4:bA c w (cells.drop off) (vs.drop off):=⟨by rw[XO,XO,oR.1],fun j d x hj hx=>by
       rw[Yk]at hj hx;exact oR.2 _ d x hj hx⟩
      have hm:=many _ ds _ fD (fun k' hk'=>ht k' (by simp only[cW,hk,XY];exact .inr hk')) F4;obtain⟨q1,q2⟩:=fF fD;refine .ept ds b off (fun j=>(vs.drop off).getD j undef) (fun hm'=>hm'.2 k (ht k (by simp[cW])) (by rw[hk];exact hb)) (ng hh) (fun d hd=>?_) (fun j hj=>?_) (fun j d hj=>?_) (fun _=>⟨_,_,hh⟩)
      ·obtain⟨j,hj,e⟩:=X7 hd;obtain⟨p,hp,y7⟩:=q2 j d (by rw[<-e];exact Xj hj);exact nf y7 (h1 p (Yd (Xk hp)))
      ·have hl:off+j < vs.length:=by have:=F4.1;rw[XO,XO]at this;rw[<-q1,XO]at hj;have:=oR.1;omega
       simp[YL,hh,XJ,Yk,Xj hl]
      ·have hl:j < (vs.drop off).length:=by rw[<-hm.1];exact(Xm.1 hj).1
       have:=hm.2 j d _ hj (Xj hl);simpa[XJ,Xj hl]using this
   ·cases hv
  |rp k g sz i j=>
   simp only[br]at hv;split at hv
   ·rename_i E sz' g' rows hk;split at hv
    ·rename_i e;obtain⟨rfl,rfl⟩:=e;split at hv
     ·rename_i row b9;simp only[XB]at hv;obtain⟨ds,fD,rfl⟩:=hv;have bo:=hc.chunk k;rw[hk]at bo;cases hr with
      |rp _ _ _ _ _ b nn cap hb=>
       obtain⟨cur,xs,z1,z2,z3,z4,z5,z6,z7,z8,z9,z10,z11⟩:=eB bo hb (fun e=>by rw[e]at b9;cases b9);have hi:i < rows.length:=(Xm.1 b9).1;have By:row.length=sz:=z5 row (Xk b9);have CR:(i+1)*sz<=rows.length*sz:=Yt sz hi;rw[YX]at CR;have oQ:=Dv z2 z5 b9 z3;generalize LB:(xs.drop (i*sz)).take sz=ys at oQ;have tB:ys.length=sz:=by rw[<-oQ.1,By]
       have cf:∀j' v,ys[j']? =some v->cur[i*sz+j']? =some v:=by
        intro j' v hj';rw[<-LB]at hj';obtain⟨hlt,hj'⟩:=eX hj';rw[z4 _ aa,hj']
       have F4:bA c w (row.drop j) (ys.drop j):=⟨by rw[XO,XO,oQ.1],fun j d x hj hx=>by
        rw[Yk]at hj hx;exact oQ.2 _ d x hj hx⟩
       have hm:=many _ ds _ fD (fun k' hk'=>ht k' (by simp only[cW,hk,b9,YD,XY];exact .inr hk')) F4;obtain⟨q1,q2⟩:=fF fD;have ec:c.block k (s.heap k)=fE (.slice (some ⟨b,0,none⟩) nn cap):=by rw[hk];simp[Cx.block,hb]
       refine .ept ds b (i*sz+j) (fun j'=>(ys.drop j).getD j' undef) (fun hm'=>hm'.2 k (ht k (by simp[cW])) (by rw[ec,dr aa])) (ng z1) (fun d hd=>?_) (fun j' hj'=>?_) (fun j' d hj'=>?_) (fun _=>⟨_,_,z1⟩)
       ·obtain⟨j',hj',e⟩:=X7 hd;obtain⟨p,hp,y7⟩:=q2 j' d (by rw[<-e];exact Xj hj');exact nf y7 (z6 row (Xk b9) p (Yd (Xk hp)))
       ·have hl:j+j' < ys.length:=by rw[<-q1,XO]at hj';omega
        have:=cf (j+j') _ (Xj hl);simp only[YL,z1];rw[ZI,this];simp[XJ,Yk,Xj hl]
       ·have hl:j' < (ys.drop j).length:=by rw[<-hm.1];exact(Xm.1 hj').1
        have:=hm.2 j' d _ hj' (Xj hl);simpa[XJ,Xj hl]using this
     ·cases hv
    ·cases hv
   ·cases hv
  |clo g caps=>
   simp only[br,XB]at hv;obtain⟨ds,fD,rfl⟩:=hv;cases hr with
   |clo _ _ vs hl aU=>
    have hm:=many _ ds _ fD (fun k' hk'=>ht k' hk') ⟨hl,aU⟩;exact .clo g ds vs hm.1 hm.2
  |agg cells=>
   simp only[br,XB]at hv;obtain⟨ds,fD,rfl⟩:=hv;cases hr with
   |agg _ vs hl h1 aU=>
    have hm:=many _ ds _ fD (fun k' hk'=>ht k' hk') ⟨hl,aU⟩;refine .agg ds vs hm.1 (fun d hd=>?_) hm.2;obtain⟨j,hj,e⟩:=X7 hd;obtain⟨p,hp,y7⟩:=(fF fD).2 j d (by rw[<-e];exact Xj hj);exact nf y7 (h1 p (Xk hp))
  |tup cells=>
   simp only[br,XB]at hv;obtain⟨ds,fD,rfl⟩:=hv;cases hr with
   |tup _ vs hl aU=>
    have hm:=many _ ds _ fD (fun k' hk'=>ht k' hk') ⟨hl,aU⟩;exact .tup ds vs hm.1 hm.2
  |any=>cases hv
  |osl k g sz a m=>
   simp only[br]at hv;split at hv
   ·rename_i E sz' g' rows hk;split at hv
    ·rename_i e;obtain⟨rfl,rfl,LC⟩:=e;simp only[XB]at hv;obtain⟨drows,fD,rfl⟩:=hv;obtain⟨q1,q2⟩:=wR fD;have bo:=hc.chunk k;rw[hk]at bo;have hkT:k∈T:=ht k (by simp[cW]);have yZ:∀r∈rows,∀p∈r,∀k'∈cW s.heap n p,k'∈T:=fun r hr p hp k' hk'=>ht k' (by
      simp only[cW,hk,XY];exact .inr (ph hr hp k' hk'))
     cases hr with
     |osl _ _ _ _ _ b o N cap ec hn To Ph=>
      obtain⟨cur,xs,z1,z2,z3,z4,z5,z6,z7,z8,z9,z10,z11⟩:=eB bo ec (fun e=>by rw[e]at LC;simp at LC);have bP:((rows.drop a).take m).length=m:=by rw[Xo,XO];omega
      rw[bP]at q1;rcases Zx m with hm0|hm0
      ·subst hm0;have:drows=[]:=X9 aa;subst this;exact .nil sz _ _ (by simp[maxLen]at z9;omega)
      ·have ho:o=a*sz:=Ph aa;subst ho;have b9:∀(j:Nat) (p:List PV),((rows.drop a).take m)[j]? =some p->rows[a+j]? =some p/\j < m:=by
        intro j p hp;have hj:j < m:=by have:=(Xm.1 hp).1;rw[bP]at this;exact this
        rw[XP hj,Yk]at hp;exact⟨hp,hj⟩
       have mi:∀i j,a*sz+i*sz+j=(a+i)*sz+j:=fun i j=>by rw[ZT]
       have wg:∀i j,i < m->j < sz->(a+i)*sz+j < rows.length*sz:=by
        intro i j hi hj;have:(a+i+1)*sz<=rows.length*sz:=Yt sz aa;rw[YX]at this;omega
       have hD:RepD (li c s.heap T) w (.sl sz drows) (.slice (some ⟨b,a*sz,none⟩) drows.length (cap - a)):=by
        refine .sl sz drows b (a*sz) (cap - a) (fun i j=>xs.getD ((a+i)*sz+j) undef) (fun hm'=>hm'.2 k hkT (by rw[hk];simp[Cx.block,ec,dr (show 0 < cap by omega)])) (ng z1) aa (by simp[maxLen]at z9;omega) (fun r hr=>?_) (fun r hr d hd=>?_) (fun i j hi hj=>?_) (fun i j row d hi hj=>?_) (fun _=>⟨_,_,z1⟩)
        ·obtain⟨j,hj,e⟩:=X7 hr;obtain⟨p,hp,y7⟩:=q2 j r (by rw[<-e];exact Xj hj);rw[<-(fF y7).1];exact z5 p (Xk (b9 j p hp).1)
        ·obtain⟨j,hj,e⟩:=X7 hr;obtain⟨p,hp,y7⟩:=q2 j r (by rw[<-e];exact Xj hj);obtain⟨j2,L0,e2⟩:=X7 hd;obtain⟨p2,Ji,HM⟩:=(fF y7).2 j2 d (by rw[<-e2];exact Xj L0);exact nf HM (z6 p (Xk (b9 j p hp).1) p2 (Xk Ji))
        ·have hb:=wg i j aa hj;rw[mi];simp only[YL,z1,z4 _ hb];simp[XJ,Xj (show (a+i)*sz+j < xs.length by omega)]
        ·obtain⟨p,hp,y7⟩:=q2 i row hi;obtain⟨p2,Ji,HM⟩:=(fF y7).2 j d hj;obtain⟨hp',hi'⟩:=b9 i p hp;have hj':j < sz:=by rw[<-z5 p (Xk hp')];exact(Xm.1 Ji).1
         have hb:=wg i j hi' hj';have hx:xs[(a+i)*sz+j]? =some xs[(a+i)*sz+j]:=Xj aa;have:=z2.2 ((a+i)*sz+j) p2 _ (by rw[cA z5 (a+i) j hj',hp'];exact Ji) hx;have:=jv n HM (yZ p (Xk hp') p2 (Xk Ji)) this;simpa[XJ,hx]using this
       rw[<-q1]at hD;exact hD
    ·cases hv
   ·cases hv
  |mref=>cases hv
end
def vw (h:Nat->Chunk)(p:PV):Option D:=br h 6 p
def tc (h:Nat->Chunk)(p:PV):List Nat:=cW h 6 p
theorem Qm {h h':Nat->Chunk}{p:PV}(e:∀k∈tc h p,h' k=h k):vw h' p=vw h p:=(fT 6 p e).1
theorem Qn {h h':Nat->Chunk}{p:PV}(e:∀k∈tc h p,h' k=h k):tc h' p=tc h p:=(fT 6 p e).2
section
variable {X:Cfg}{ops:Array Oper}{s:FS}{o:Oper}(hd:∀d,o.dst=some d->d < X.n)
include hd
theorem Qo [Flo]{fo:Operand}{args:Array Operand}{tys:Array Nat}{g:Nat}{caps:List PV}{ds:List D}{r:D}(ho:o.op= .call {callee:= .value fo,args:=args,argTypes:=tys})
 (hf:ev s fo= .clo g caps\/∃cd:List D,ev s fo= .d (.clo g cd)/\caps=cd.map .d)
 (hv:cI (vw s.heap) (args.toList.map (ev s)++caps)=some ds) (hp:ai X.P g ds r) (ip:j6 (tc s.heap) (args.toList.map (ev s)++caps)=[]\/r.flat=true):
 bH X ops s o {pv:= .d r,touch:=j6 (tc s.heap) (args.toList.map (ev s)++caps)}:=by
 refine⟨hd,fun kc h=>by simp at h,fun s' he iH a w hr K Q hK=>?_⟩;obtain⟨c,hc⟩:=hr;have uK:∀x,(x=fo\/x∈args)->ev s' x=ev s x:=fun x hx=>BJ he x (by
  rw[ho];simp only[Op.operands,Call.operands];rcases hx with rfl|hx
  ·simp
  ·simp[hx])
 have vN:args.toList.map (ev s')=args.toList.map (ev s):=Y0 fun x hx=>uK x (.inr (by simpa using hx));have UY:cI (vw s'.heap) (args.toList.map (ev s)++caps)=some ds:=by
  rw[<-hv];exact gU fun p hp=>Qm fun k hk=>iH k (go hp k hk)
 have a0V:∀p∈args.toList.map (ev s)++caps,∀k∈tc s'.heap p,k∈j6 (tc s.heap) (args.toList.map (ev s)++caps):=by
  intro p hp k hk;refine go hp k ?_;have key:tc s'.heap p=tc s.heap p:=Qn fun k hk=>iH k (go hp k hk);rw[<-key];exact hk
 obtain⟨q1,q2⟩:=fF UY;obtain⟨fvs,SA,wh,HN⟩:∃fvs:List Value,a.eval fo= .func (.func g) #[] fvs.toArray/\caps.length=fvs.length/\∀(j:Nat) (p:PV) (x:Value),caps[j]? =some p->fvs[j]? =some x->RepP c w p x:=a2c
 have aU:cj (li c s'.heap (j6 (tc s.heap) (args.toList.map (ev s)++caps))) w ds (args.toList.map a.eval++fvs):=by
  refine⟨by rw[<-q1];simp[wh],fun j d x hj hx=>?_⟩;obtain⟨p,hp,y7⟩:=q2 j d hj;refine jv hc 6 y7 (a0V p (Xk hp)) ?_;by_cases hlt:j < args.toList.length
  ·exact a2x
  ·exact a4a
 have jL:=hp.2 _ w (args.toList.map a.eval++fvs) (fun b hb=>hc.lt hb.1) (hc.ginv.keep ⟨XA _,fun _ _ _=>rfl,fun b _ hb=>hb.1⟩) aU;have cg:(execOp a.eval o).run X.P w= .ok (.enter g (args.toList.map a.eval++fvs).toArray) w:=by
  have e:(args.toList.map a.eval++fvs).toArray=args.map a.eval++fvs.toArray:=by
   apply _q;simp
  rw[e];simp[execOp,ho,resolve,SA,Deferred.ofValue,invoke];exact hp.1 _ _
 unfold Oper.wp;rw[cg,Oper.upon_enter];refine jL.mono ?_;rintro e w' ⟨v,rfl,hv',hx⟩;have WW:=hc.grow hx;refine hK v w' ⟨c,WW.put (.d _ _ ?_) hd⟩;rcases ip with h0|hflat
 ·refine hv'.keep ⟨XA _,fun _ _ _=>rfl,fun b _ hb=>⟨hb,fun k hk=>?_⟩⟩;rw[h0]at hk;simp at hk
 ·exact Mo hv' hflat
end
theorem a2B {p:Prop}(h:p:=by
 have:=tU (size:=sz) (fun i=>some (i*sz,sz)) (fun _=>rfl) vs 0 [] ((_k (n*sz)).map (ze.cells[· % ze.cells.size]!)).toList LD ak (by simp[Sv]);rw[HO];rw[X8,X8,_f]at this;exact this):p:=h
theorem a2I {p:Prop}(h:p:=by
 apply Yg;intro j;simp only[F',Xr,List.getElem?_zipIdx,gS,X6];cases hj:parts[j]? with
 |none=>rfl
 |some ix=>
  obtain⟨i,x⟩:=ix;obtain⟨rfl,-⟩:=hp j i x hj;simp):p:=h
theorem a2M {p:Prop}(h:p:=by
 intro v hv;obtain⟨j,hj,e⟩:=X7 hv;have hjr:j < rows.length:=aa;have:=(b9 j rows[j] v (Xj hjr) (by rw[<-e];exact Xj hj));have h2:=this.1.1;simp at h2;omega):p:=h
theorem a4J {p:Prop}(h:p:=by
 intro r hr;obtain⟨v,hv,rfl⟩:=XF.1 hr;simpa using LD v hv):p:=h
theorem tU {size:Nat}(place:Nat->Option (Nat × Nat))(gz:∀i,place i=some (i*size,size)):∀(vs:List Value) (i:Nat) (done rest:List Value),(∀v∈vs,v.cells.size=size)->done.length=i*size->rest.length=vs.length*size->
 Instr.fill place (done++rest).toArray ((vs.zipIdx i).map fun(v,j)=>(j,v))=some (done++(vs.map fun v=>v.cells.toList).flatten).toArray
 |[],i,done,rest,_,_,hr=>by
  have:rest=[]:=X9 (by simpa using hr);subst this;simp[Instr.fill]
 |v::vs,i,done,rest,hv,hdn,hr=>by
  have h0:=hv v ak;rw[XC,YX]at hr;simp only[List.zipIdx_cons,Xl];rw[Aw place _ i (i*size) size v _ (gz i) h0 aN];have e:aC (done++rest) (i*size) v.cells.toList=(done++v.cells.toList)++rest.drop size:=by
   unfold aC;have hl:v.cells.toList.length=size:=by simpa using h0
   rw[<-hdn,List.take_left,hl,_n,Y' aa,X8];congr 1;congr 1;omega
  simp only[YZ];rw[e,tU place gz vs (i+1) (done++v.cells.toList) (rest.drop size) (fun x hx=>hv x (by simp[hx])) (by rw[XV,hdn,YX];simp;omega) (by rw[XO];omega)];simp
section
variable {X:Cfg}{ops:Array Oper}{s:FS}{o:Oper}(hd:∀d,o.dst=some d->d < X.n)
include hd
theorem zD [Flo]{t e n sz:Nat}{parts:Array (Nat × Operand)}{ti te:TI}{rows:List (List D)}(ho:o.op= .buildSlice t n parts)(ht:aV X.P t=some ti)(he':ti.elem=some e)(iD:aV X.P e=some te)
 (cK:te.size=sz) (we:0 < sz) (mU:0 < n) (UZ:n*sz<=16777216) (P1:rows.length=n) (mA:parts.size=n) (hp:∀(j:Nat) (i:Nat) (x:Operand),parts[j]? =some (i,x)->i=j/\∃ds,rows[j]? =some ds/\wN (cF (ev s x))=some ds/\wM (ev s x)=true/\ds.length=sz):
 bH X ops s o {pv:= .d (.sl sz rows)}:=
 d9 hd (fun kc h=>by simp at h) fun s' he _ a w c hc=>by
  obtain⟨i,d,z,tk⟩:=iW ht;obtain⟨ie,de,ze,tke⟩:=iW iD;have lg:d= .slice e:=a1V
  subst lg;obtain⟨vs,gS⟩:∃vs:List Value,vs=parts.toList.map fun p=>a.eval p.2:=⟨_,rfl⟩;have Sv:vs.length=n:=by rw[gS];simpa using mA
  have b9:∀(j:Nat) (ds:List D) (v:Value),rows[j]? =some ds->vs[j]? =some v->cj c.M w ds v.cells.toList/\(∀e∈ds,e.one=true)/\ds.length=sz:=by
   intro j ds v hj hv;rw[gS]at hv;simp only[Xr,X6,XB]at hv;obtain⟨⟨i,y⟩,hy,rfl⟩:=hv;obtain⟨-,ds',g1,g2,g3,g4⟩:=hp j i y hy;rw[hj]at g1;cases g1;have gA:y∈o.op.operands:=a2T
   have aU:=bI hc y;rw[he y gA]at aU;obtain⟨r1,r2⟩:=j5 aU g3;have gB:=r7 g2;refine⟨⟨?_,fun k e v hk hv=>?_⟩,fun e he'=>?_,g4⟩
   ·have:=r1.1;rw[gB,Xs]at this;exact this
   ·exact ck (r1.2 k (.d e) v (by rw[gB,Xr,hk];rfl) hv)
   ·have:=r2 (.d e) (by rw[gB];exact Y7 he');exact this
  have LD:∀v∈vs,v.cells.size=sz:=a2M
  have HO:(parts.map fun(i,x)=>(i,a.eval x)).toList=((vs.zipIdx 0).map fun(v,j)=>(j,v)):=a2I
  have Tq:ze.cells.size=sz:=by rw[<-cK,<-tke.zsize,<-tke.zcells];simp
  have Pj:Instr.fill (fun i=>some (i*sz,sz)) ((_k (n*sz)).map (ze.cells[· % ze.cells.size]!)) (parts.map fun(i,x)=>(i,a.eval x)).toList=some ((vs.map fun v=>v.cells.toList).flatten).toArray:=a2B
  have ip:∀r∈vs.map fun v=>v.cells.toList,r.length=sz:=a4J
  have hx:=j4 w (.cells ((vs.map fun v=>v.cells.toList).flatten).toArray e);refine⟨.value (.slice (some ⟨w.heap.size,0,none⟩) n n),_,w.alloc (.cells ((vs.map fun v=>v.cells.toList).flatten).toArray e),?_,.inl rfl,c,hc.grow hx,.d _ _ ?_⟩
  ·have kr:∀o:Obj,({w with heap:=w.heap.push o}:World)=w.alloc o:=fun o=>(X' w o);have cg:(Instr.buildSlice t n (parts.map fun(i,x)=>(i,a.eval x))).run X.P w= .ok (.slice (some ⟨w.heap.size,0,none⟩) n n) (w.alloc (.cells ((vs.map fun v=>v.cells.toList).flatten).toArray e)):=by
    have bG:¬(n*sz=0):=Nat.ne_of_gt (Nat.mul_pos mU we);unfold Instr.buildSlice;simp only[Sem.run_bind,run_underlying tk.und,Result.andThen_ok,sizeOf,typeInfo,run_program,tke.info,Sem.run_pure,tke.size,cK];rw[af aa,af bG];simp only[Sem.run_bind,zeroValue,typeInfo,run_program,tke.info,Result.andThen_ok,Sem.run_pure,tke.zero,Pj];simp[newRow,newObj,Sem.run,kr]
   simp only[execOp,ho];rw[Sem.run_bind,cg];rfl
  ·have hM:∀b,c.M b->b < w.heap.size:=fun b hb=>hc.lt hb;have hk:Keep c.M w c.M (w.alloc (.cells ((vs.map fun v=>v.cells.toList).flatten).toArray e)):=Keep.ext hx hM;subst P1;refine .sl sz rows w.heap.size 0 rows.length (fun i j=>((vs[i]?.map fun v=>v.cells.toList).getD []).getD j undef) (fun h=>by have:=hM _ h;omega) (by rw[size_alloc];omega) (XA _)
    (by have:rows.length<=rows.length*sz:=Nat.le_mul_of_pos_right _ we;omega) (fun r hr=>?_) (fun r hr=>?_) (fun i j hi hj=>?_) (fun i j row d hi hj=>?_) (fun _=>⟨_,_,jt w _⟩)
   ·obtain⟨j,hj,e⟩:=X7 hr;exact(b9 j r vs[j] (by rw[<-e];exact Xj hj) (Xj aa)).2.2
   ·obtain⟨j,hj,e⟩:=X7 hr;exact(b9 j r vs[j] (by rw[<-e];exact Xj hj) (Xj aa)).2.1
   ·have hv:vs[i]? =some vs[i]:=Xj aa;have hf:=cA (rows:=vs.map fun v=>v.cells.toList) ip i j hj;rw[Xr,hv]at hf;simp only[YL,jt,Xw,Zc,hf,hv,Yb,YD,Y5];have hl:j < vs[i].cells.toList.length:=by
     have:=LD vs[i] (Yl aa);simpa[this]using hj
    simp[XJ,Xj hl]
   ·have hi':i < rows.length:=(Xm.1 hi).1;have hv:vs[i]? =some vs[i]:=Xj aa;obtain⟨g1,g2,g3⟩:=b9 i row vs[i] hi hv;have hl:j < vs[i].cells.toList.length:=by rw[<-g1.1];exact(Xm.1 hj).1
    have:=(g1.2 j d _ hj (Xj hl)).keep hk;simpa[hv,XJ,Xj hl]using this
theorem wS [Flo]{t e n sz nk:Nat}{parts:Array (Nat × Operand)}{ti te:TI}{rows:List (List PV)}(ho:o.op= .buildSlice t n parts)(ht:aV X.P t=some ti)(he':ti.elem=some e)(iD:aV X.P e=some te)
 (cK:te.size=sz) (we:0 < sz) (mU:0 < n) (UZ:n*sz<=16777216) (P1:rows.length=n) (mA:parts.size=n) (hk:s.heap nk= .none) (vL:¬nk < X.m) (hp:∀(j:Nat) (i:Nat) (x:Operand),parts[j]? =some (i,x)->i=j/\rows[j]? =some (cF (ev s x))/\wM (ev s x)=true/\(cF (ev s x)).length=sz):
 bH X ops s o {pv:= .own nk 0,eff:=[(nk,.row e sz 0 rows)],touch:=[nk]}:=
 d9 hd (fun kc h=>by simp at h;subst h;simp) fun s' he iH a w c hc=>by
  obtain⟨i,d,z,tk⟩:=iW ht;obtain⟨ie,de,ze,tke⟩:=iW iD;have lg:d= .slice e:=a1V
  subst lg;obtain⟨vs,gS⟩:∃vs:List Value,vs=parts.toList.map fun p=>a.eval p.2:=⟨_,rfl⟩;have Sv:vs.length=n:=by rw[gS];simpa using mA
  have b9:∀(j:Nat) (ds:List PV) (v:Value),rows[j]? =some ds->vs[j]? =some v->bA c w ds v.cells.toList/\(∀e∈ds,e.one=true)/\ds.length=sz:=by
   intro j ds v hj hv;rw[gS]at hv;simp only[Xr,X6,XB]at hv;obtain⟨⟨i,y⟩,hy,rfl⟩:=hv;obtain⟨-,g1,g3,g4⟩:=hp j i y hy;rw[hj]at g1;cases g1;have gA:y∈o.op.operands:=a2T
   have aU:=bI hc y;rw[he y gA]at aU;obtain⟨r1,r2⟩:=j5 aU g3;exact⟨r1,r2,g4⟩
  have LD:∀v∈vs,v.cells.size=sz:=a2M
  have HO:(parts.map fun(i,x)=>(i,a.eval x)).toList=((vs.zipIdx 0).map fun(v,j)=>(j,v)):=a2I
  have Tq:ze.cells.size=sz:=by rw[<-cK,<-tke.zsize,<-tke.zcells];simp
  have Pj:Instr.fill (fun i=>some (i*sz,sz)) ((_k (n*sz)).map (ze.cells[· % ze.cells.size]!)) (parts.map fun(i,x)=>(i,a.eval x)).toList=some ((vs.map fun v=>v.cells.toList).flatten).toArray:=a2B
  have ip:∀r∈vs.map fun v=>v.cells.toList,r.length=sz:=a4J
  have hx:=j4 w (.cells ((vs.map fun v=>v.cells.toList).flatten).toArray e);have hk':s'.heap nk= .none:=by rw[iH nk ak];exact hk
  have Jj:(vs.map fun v=>v.cells.toList).flatten.length=n*sz:=by rw[cO ip];simp[Sv]
  have aU:bA c w rows.flatten (vs.map fun v=>v.cells.toList).flatten:=by
   refine⟨?_,fun j d x hj hx=>?_⟩
   ·rw[cO (fun r hr=>?_),Jj,P1];obtain⟨j,hj,e⟩:=X7 hr;exact(b9 j r vs[j] (by rw[<-e];exact Xj hj) (Xj aa)).2.2
   ·have By:∀r∈rows,r.length=sz:=fun r hr=>by
     obtain⟨j,hj,e⟩:=X7 hr;exact(b9 j r vs[j] (by rw[<-e];exact Xj hj) (Xj aa)).2.2
    have a0W:j < n*sz:=by rw[<-Jj];exact(Xm.1 hx).1
    have q1:j / sz < n:=ZA (by rw[Zr];exact a0W);have q2:j % sz < sz:=_h _ we;have q3:j / sz*sz+j % sz=j:=by rw[Zr];exact ZQ j sz
    rw[<-q3,cA By _ _ q2]at hj;rw[<-q3,cA ip _ _ q2,Xr]at hx;have h1:rows[j / sz]? =some rows[j / sz]:=Xj aa;have h2:vs[j / sz]? =some vs[j / sz]:=Xj aa;rw[h1]at hj;rw[h2]at hx;exact(b9 _ _ _ h1 h2).1.2 _ d x hj hx
  have df:OwnV (w.alloc (.cells ((vs.map fun v=>v.cells.toList).flatten).toArray e)) e sz (.slice (some ⟨w.heap.size,0,none⟩) n n) rows.length ((vs.map fun v=>v.cells.toList).flatten):=by
   rw[P1];refine .row _ n n _ _ mU (jt w _) (XA _) (by have:n<=n*sz:=Nat.le_mul_of_pos_right _ we;unfold maxLen;omega) (by simp only[YF];exact Jj) Jj ?_;rw[YZ,XM aa]
  obtain⟨c',q1,q2⟩:=hc.new_row (w':=w.alloc (.cells ((vs.map fun v=>v.cells.toList).flatten).toArray e)) hk' vL e sz rows _ _ hx df (fun b hb=>by rw[dr mU]at hb;cases hb;exact XA _) aU (fun r hr=>by
   obtain⟨j,hj,e⟩:=X7 hr;exact(b9 j r vs[j] (by rw[<-e];exact Xj hj) (Xj aa)).2.2) (fun r hr=>by
   obtain⟨j,hj,e⟩:=X7 hr;exact(b9 j r vs[j] (by rw[<-e];exact Xj hj) (Xj aa)).2.1)
  refine⟨.value (.slice (some ⟨w.heap.size,0,none⟩) n n),_,w.alloc (.cells ((vs.map fun v=>v.cells.toList).flatten).toArray e),?_,.inl rfl,c',q1,q2⟩;have kr:∀o:Obj,({w with heap:=w.heap.push o}:World)=w.alloc o:=fun o=>(X' w o);have cg:(Instr.buildSlice t n (parts.map fun(i,x)=>(i,a.eval x))).run X.P w= .ok (.slice (some ⟨w.heap.size,0,none⟩) n n) (w.alloc (.cells ((vs.map fun v=>v.cells.toList).flatten).toArray e)):=by
   have bG:¬(n*sz=0):=Nat.ne_of_gt (Nat.mul_pos mU we);unfold Instr.buildSlice;simp only[Sem.run_bind,run_underlying tk.und,Result.andThen_ok,sizeOf,typeInfo,run_program,tke.info,Sem.run_pure,tke.size,cK];rw[af aa,af bG];simp only[Sem.run_bind,zeroValue,typeInfo,run_program,tke.info,Result.andThen_ok,Sem.run_pure,tke.zero,Pj];simp[newRow,newObj,Sem.run,kr]
  simp only[execOp,ho];rw[Sem.run_bind,cg];rfl
theorem wT [Flo]{t e nk:Nat}{ti te:TI}(ho:o.op= .buildSlice t 0 #[])(ht:aV X.P t=some ti)(he':ti.elem=some e)(iD:aV X.P e=some te)(hk:s.heap nk= .none)(vL:¬nk < X.m):
 bH X ops s o {pv:= .own nk 0,eff:=[(nk,.row e te.size 0 [])],touch:=[nk]}:=
 d9 hd (fun kc h=>by simp at h;subst h;simp) fun s' he iH a w c hc=>by
  obtain⟨i,d,z,tk⟩:=iW ht;obtain⟨ie,de,ze,tke⟩:=iW iD;have lg:d= .slice e:=a1V
  subst lg;have hk':s'.heap nk= .none:=by rw[iH nk ak];exact hk
  obtain⟨c',q1,q2⟩:=hc.new_row (w':=w.alloc (.cells #[] e)) hk' vL e te.size [] _ [] (j4 w _) (.zero ⟨w.heap.size,0,none⟩) (fun b hb=>by cases hb) ⟨rfl,fun j d x h=>by simp at h⟩ ak ak;refine⟨_,_,_,?_,.inl rfl,c',q1,q2⟩;have kr:∀o:Obj,({w with heap:=w.heap.push o}:World)=w.alloc o:=fun o=>(X' w o);have cg:(Instr.buildSlice t 0 #[]).run X.P w= .ok (.slice (some ⟨w.heap.size,0,none⟩) 0 0) (w.alloc (.cells #[] e)):=by
   simp[Instr.buildSlice,run_underlying tk.und,sizeOf,typeInfo,tke.info,Instr.fill,newRow,newObj,Sem.run,kr];rw[show Array.map (fun _=>(default:Value)) (_k 0)=#[] from Array.eq_empty_of_size_eq_zero ak]
  simp only[execOp,ho];rw[Sem.run_bind];simp only[Array.map_empty,cg];rfl
theorem BT [Flo]{t e nk:Nat}{l x:Operand}{ti te:TI}{zv:Value}{k k':IntKind}{n:Int}(ho:o.op= .makeSlice t l x)(ht:aV X.P t=some ti)(he':ti.elem=some e)(iD:aV X.P e=some te)
 (tD:te.zero=[zv]) (mU:0 < n) (hb:(te.bytes:Int)*n<=281474976710656) (hm:n<=9223372036854775807) (hl:ev s l= .d (.v (.int k n))) (hx:ev s x= .d (.v (.int k' n))) (hk:s.heap nk= .none) (vL:¬nk < X.m):
 bH X ops s o {pv:= .own nk 0,eff:=[(nk,.row e 1 0 (XS n.toNat [.d (.v zv)]))],touch:=[nk]}:=
 d9 hd (fun kc h=>by simp at h;subst h;simp) fun s' he iH a w c hc=>by
  obtain⟨i,d,z,tk⟩:=iW ht;obtain⟨ie,de,ze,tke⟩:=iW iD;have lg:d= .slice e:=a1V
  subst lg;have e1:=bI hc l;rw[he l (by simp[ho,Op.operands]),hl]at e1;have e2:=bI hc x;rw[he x (by simp[ho,Op.operands]),hx]at e2;have e3:a.eval l= .int k n:=by generalize a.eval l=u at e1;cases ck e1;rfl
  have e4:a.eval x= .int k' n:=by generalize a.eval x=u at e2;cases ck e2;rfl
  have Tq:ze.cells=#[zv]:=by apply _q;rw[tke.zcells,tD]
  have cK:ie.size=1:=by have:=tke.zsize;rw[tD]at this;rw[tke.size];simpa using this.symm
  have WX:Go.madeCells ze.cells (n.toNat*ie.size)=(XS n.toNat zv).toArray:=by
   rw[Tq,cK,_g];apply _q;simp only[Go.madeCells,F',Array.toList_range];apply List.ext_getElem
   ·simp
   ·intro j h1 h2;simp[Nat.mod_one]
  have hk':s'.heap nk= .none:=by rw[iH nk ak];exact hk
  have By:∀r∈XS n.toNat [PV.d (.v zv)],r=[PV.d (.v zv)]:=fun r hr=>Zy hr;have hflat:(XS n.toNat [PV.d (.v zv)]).flatten=XS n.toNat (PV.d (.v zv)):=by
   induction n.toNat with
   |zero=>rfl
   |succ m ih=>rw[List.replicate_succ,YR,ih];rfl
  have a0X:zv.oneCell'=true:=tke.one zv (by rw[tD];simp);obtain⟨c',q1,q2⟩:=hc.new_row (w':=w.alloc (.cells (XS n.toNat zv).toArray e)) hk' vL e 1 (XS n.toNat [PV.d (.v zv)]) (.slice (some ⟨w.heap.size,0,none⟩) n.toNat n.toNat) (XS n.toNat zv) (j4 w _) (by
   rw[List.length_replicate];refine .row _ n.toNat n.toNat _ _ aa (jt w _) (XA _) Qf ak ak ?_;rw[YZ,XM ak]) (fun b hb=>by rw[dr aa]at hb;cases hb;exact XA _) (by
   rw[hflat];refine⟨by simp,fun j d u hj hu=>?_⟩;rw[Z2]at hj hu;split at hj
   ·cases hj;rename_i hlt;rw[ah hlt]at hu;cases hu;exact .d _ _ (.v _)
   ·cases hj) (fun r hr=>by rw[By r hr];rfl) (fun r hr d hd=>by rw[By r hr]at hd;rw[Yc.1 hd];exact a0X)
  refine⟨_,_,_,?_,.inl rfl,c',q1,q2⟩;have cg:=run_make (P:=X.P) w t e ie ze tk.und tke.info tke.zero k k' n n aa (ZJ _) (by rw[tke.bytes];exact hb) hm;rw[WX]at cg;simp only[execOp,ho,e3,e4];rw[Sem.run_bind,cg];rfl
theorem Gq [Flo]{src dst:Nat}{x:Operand}{k k':IntKind}{n:Int}{ts td:TI}(ho:o.op= .convert src dst x)(hs:aV X.P src=some ts)(ht:aV X.P dst=some td)(hi:td.int=some k)(hx:ev s x= .d (.v (.int k' n))):
 bH X ops s o {pv:= .d (.v (.int k (k.wrap n)))}:=
 aM hd fun s' he _ a w c hc=>by
  have h1:=di hc ((he x (by simp[ho,Op.operands])).trans hx);obtain⟨i,d,z,tk⟩:=iW hs;obtain⟨i2,d2,z2,tk2⟩:=iW ht;have zm:d2= .int k:=by
   have:=tk2.int;rw[hi]at this;cases d2<;>simp[Qj]at this;rw[this]
  subst zm;refine⟨.int k (k.wrap n),?_,.d _ _ (.v _)⟩;have cg:(convert src dst (.int k' n)).run X.P w= .ok (.int k (k.wrap n)) w:=by
   simp[convert,run_underlying tk.und,run_underlying tk2.und,Conv.intToInt]
  simp only[execOp,ho,h1];rw[Sem.run_bind,cg];rfl
theorem TO [Flo]{x y:Operand}{tys:Array Nat}{k:IntKind}{m n:Int}(ho:o.op= .call {callee:= .builtin .min,args:=#[x,y],argTypes:=tys})(hx:ev s x= .d (.v (.int k m)))(hy:ev s y= .d (.v (.int k n))):
 bH X ops s o {pv:= .d (.v (.int k (if n < m then n else m)))}:=
 aM hd fun s' he _ a w c hc=>by
  have h1:=di hc ((he x (by simp[ho,Op.operands,Call.operands])).trans hx);have h2:=di hc ((he y (by simp[ho,Op.operands,Call.operands])).trans hy);exact⟨.int k (if n < m then n else m),by simp[execOp,ho,resolve,h1,h2,invoke,builtin,Builtin.min_,Builtin.min2],.d _ _ (.v _)⟩
theorem TP [Flo]{x y:Operand}{tys:Array Nat}{k:IntKind}{m n:Int}(ho:o.op= .call {callee:= .builtin .max,args:=#[x,y],argTypes:=tys})(hx:ev s x= .d (.v (.int k m)))(hy:ev s y= .d (.v (.int k n))):
 bH X ops s o {pv:= .d (.v (.int k (if m < n then n else m)))}:=
 aM hd fun s' he _ a w c hc=>by
  have h1:=di hc ((he x (by simp[ho,Op.operands,Call.operands])).trans hx);have h2:=di hc ((he y (by simp[ho,Op.operands,Call.operands])).trans hy);exact⟨.int k (if m < n then n else m),by simp[execOp,ho,resolve,h1,h2,invoke,builtin,Builtin.max_,Builtin.max2],.d _ _ (.v _)⟩
end
theorem lC (T:List Nat)(h:Nat->Chunk)(k:Nat):cw (T.map fun k=>(k,.gone)) h k=if k∈T then .gone else h k:=by
 induction T with
 |nil=>simp[cw]
 |cons a T ih=>
  simp only[Xl,cw];by_cases e:k=a
  ·simp[e]
  ·rw[af e,ih];simp[e]
theorem RealC.freeze [Flo]{X:Cfg}{s:FS}{a:Act}{w:World}{c:Cx}(h:RealC X s a w c)(T:List Nat):
 RealC X {s with heap:=cw (T.map fun k=>(k,.gone)) s.heap} a w {c with M:=li c s.heap T}:=by
 have dh:=lC T s.heap;have hk:=tT c s.heap T w;have cu:∀k ch,Cx.block {c with M:=li c s.heap T} k ch=c.block k ch:=fun k ch=>by cases ch<;>rfl
 have hle:c.le {c with M:=li c s.heap T}:=⟨fun _ _ h=>h,fun _ _ _ h=>h⟩;refine⟨h.size,h.defers,h.ext,h.inv,h.fresh,fun b=>?_,fun k b hb=>?_,fun k k' b hb hb'=>?_,fun t=>(h.env t).keep hle hk,fun k=>?_,h.lent⟩
 ·constructor
  ·rintro⟨hm,hT⟩;rcases(h.mu b).1 hm with h0|⟨k,Jk⟩
   ·exact .inl h0
   ·refine .inr ⟨k,?_⟩;have hnT:k∉T:=fun dM=>hT k dM Jk;simp only[dh,af hnT,cu];exact Jk
  ·rintro (h0|⟨k,Jk⟩)
   ·refine⟨(h.mu b).2 (.inl h0),fun k _ e=>?_⟩;rcases(h.new k b e).1 with h1|h1
    ·exact(h.fresh b h0).2 h1
    ·have:=(h.fresh b h0).1;omega
   ·simp only[dh,cu]at Jk;split at Jk
    ·simp[Cx.block]at Jk
    ·rename_i hnT;refine⟨(h.mu b).2 (.inr ⟨k,Jk⟩),fun k' hk' e=>?_⟩;have:=h.apart k k' b Jk e;subst this;exact hnT hk'
 ·simp only[dh,cu]at hb;split at hb
  ·simp[Cx.block]at hb
  ·exact h.new k b hb
 ·simp only[dh,cu]at hb hb';split at hb
  ·simp[Cx.block]at hb
  ·split at hb'
   ·simp[Cx.block]at hb'
   ·exact h.apart k k' b hb hb'
 ·simp only[dh];split
  ·exact .gone
  ·exact(h.chunk k).keep hle hk (fun _ _=>rfl) rfl rfl
abbrev bU:=List (Nat × PV)
def dP:bU->Nat->PV
 |[],_=> .any
 |(a,p)::l,t=>if t=a then p else dP l t
def az:List Chunk->Nat->Chunk
 |[],_=> .none
 |c::_,0=>c
 |_::l,k+1=>az l k
def bs (e:bU)(h:List Chunk):FS:=⟨dP e,az h⟩
def dA (e:bU):Operand->PV
 | .tmp t=>dP e t
 | .const v=> .d (.v v)
 | .func f=> .d (.clo f [])
 | .global _=> .any
theorem aG (e:bU)(h:List Chunk)(x:Operand):ev (bs e h) x=dA e x:=by cases x<;>rfl
mutual
def ay (n:Nat):PV->Bool
 | .ptr k _=>decide (k < n)
 | .own k _=>decide (k < n)
 | .rp k _ _ _ _=>decide (k < n)
 | .osl k _ _ _ _=>decide (k < n)
 | .mref k=>decide (k < n)
 | .agg l=>aw n l
 | .tup l=>aw n l
 | .clo _ caps=>aw n caps
 | .d _=>true
 | .any=>true
def aw (n:Nat):List PV->Bool
 |[]=>true
 |p::l=>ay n p&&aw n l
end
theorem j8 {n:Nat}:∀{l:List PV},aw n l=true->∀p∈l,ay n p=true
 |q::l,h,p,hp=>by
  simp only[aw,Xv]at h;rcases XY.1 hp with rfl|hp
  ·exact h.1
  ·exact j8 h.2 p hp
def cB (n:Nat):List (List PV)->Bool
 |[]=>true
 |r::l=>aw n r&&cB n l
theorem bu (n:Nat):∀(l:List D),aw n (l.map .d)=true
 |[]=>rfl
 |x::l=>by simp only[Xl,aw,ay,bu n l,Yq]
theorem aF (n:Nat):∀(l:List (List D)),cB n (ab l)=true
 |[]=>rfl
 |x::l=>by
  have:=aF n l;simp only[ab]at this;simp only[ab,Xl,cB,bu,this,Yq]
def aQ (n:Nat):Chunk->Bool
 | .box _ cells=>aw n cells
 | .row _ _ _ rows=>cB n rows
 |_=>true
def aL (n:Nat):List Chunk->Bool
 |[]=>true
 |c::l=>aQ n c&&aL n l
def eD (n:Nat):bU->Bool
 |[]=>true
 |(_,p)::l=>ay n p&&eD n l
def BU (e:bU):bU->Prop
 |[]=>True
 |(t,p)::l=>dP e t=p/\BU e l
theorem wU {n:Nat}:∀{e:bU},eD n e=true->∀t,ay n (dP e t)=true
 |[],_,_=>rfl
 |(t',p)::l,h,t=>by
  simp only[eD,Xv]at h;simp only[dP];by_cases ht:t=t'
  ·rw[ah ht];exact h.1
  ·rw[af ht];exact wU h.2 t
theorem tV {n:Nat}:∀{h:List Chunk},aL n h=true->∀k,aQ n (az h k)=true
 |[],_,_=>rfl
 |c::l,h,k=>by
  simp only[aL,Xv]at h;cases k with
  |zero=>exact h.1
  |succ k=>exact tV h.2 k
mutual
def ren (ρ:Nat->Nat):PV->PV
 | .d x=> .d x
 | .any=> .any
 | .ptr k o=> .ptr (ρ k) o
 | .own k g=> .own (ρ k) g
 | .rp k g sz i j=> .rp (ρ k) g sz i j
 | .osl k g sz a n=> .osl (ρ k) g sz a n
 | .clo g caps=> .clo g (jx ρ caps)
 | .agg l=> .agg (jx ρ l)
 | .tup l=> .tup (jx ρ l)
 | .mref k=> .mref (ρ k)
def jx (ρ:Nat->Nat):List PV->List PV
 |[]=>[]
 |p::l=>ren ρ p::jx ρ l
end
def kE (ρ:Nat->Nat):List (List PV)->List (List PV)
 |[]=>[]
 |r::l=>jx ρ r::kE ρ l
def mr (ρ:Nat->Nat):Chunk->Chunk
 | .box T cells=> .box T (jx ρ cells)
 | .row E sz g rows=> .row E sz g (kE ρ rows)
 |c=>c
theorem cZ (ρ:Nat->Nat):∀(l:List PV),jx ρ l=l.map (ren ρ)
 |[]=>rfl
 |p::l=>by simp only[jx,cZ ρ l,Xl]
theorem eY (ρ:Nat->Nat):∀(l:List (List PV)),kE ρ l=l.map (·.map (ren ρ))
 |[]=>rfl
 |p::l=>by simp only[kE,eY ρ l,cZ,Xl]
theorem Gr (ρ:Nat->Nat):∀(l:List D),jx ρ (l.map .d)=l.map .d
 |[]=>rfl
 |x::l=>by simp only[Xl,jx,ren,Gr ρ l]
theorem wV (ρ:Nat->Nat):∀(l:List (List D)),kE ρ (ab l)=ab l
 |[]=>rfl
 |x::l=>by
  have:=wV ρ l;simp only[ab]at this;simp only[ab,Xl,kE,Gr,this]
theorem Mq (ρ:Nat->Nat)(l:List (List PV))(i:Nat)(r:List PV):kE ρ (l.set i r)=(kE ρ l).set i (jx ρ r):=by
 simp only[eY,cZ,ZU]
theorem DC (ρ:Nat->Nat)(l:List (List PV)):(kE ρ l).length=l.length:=by rw[eY,Xs]
theorem p9 (ρ:Nat->Nat)(p:PV):(ren ρ p).one=p.one:=by cases p<;>rfl
theorem sa (ρ:Nat->Nat)(l:List (List PV)):(kE ρ l).flatten=l.flatten.map (ren ρ):=by
 rw[eY,Z1]
theorem RepP.ren [Flo]{c c2:Cx}{w:World}{ρ:Nat->Nat}{p:PV}{v:Value}(h:RepP c w p v)(hM:∀d x,RepD c.M w d x->RepD c2.M w d x)(hb:∀k b,c.bl k=some b->c2.bl (ρ k)=some b)(ho:∀k g u,c.ov k g=some u->c2.ov (ρ k) g=some u):RepP c2 w (ren ρ p) v:=by
 induction h with
 |d x v h=>exact .d x v (hM x v h)
 |any v=>exact .any v
 |ptr k off b h=>exact .ptr _ off b (hb _ _ h)
 |own k g v h h1=>exact .own _ g v (ho _ _ _ h) h1
 |rp k g sz i j b n cap h=>exact .rp _ g sz i j b n cap (ho _ _ _ h)
 |osl k g sz a n b o N cap h hn hc h2=>exact .osl _ g sz a n b o N cap (ho _ _ _ h) hn hc h2
 |clo g caps vs hl aU ih=>
  refine .clo g _ vs (by rw[cZ,Xs];exact hl) fun j d x hj hx=>?_;rw[cZ,Xr,XB]at hj;obtain⟨y,hy,rfl⟩:=hj;exact ih j y x hy hx
 |agg caps vs hl h1 aU ih=>
  refine .agg _ vs (by rw[cZ,Xs];exact hl) (fun d hd=>?_) fun j d x hj hx=>?_
  ·rw[cZ]at hd;obtain⟨y,hy,rfl⟩:=XF.1 hd;rw[p9];exact h1 y hy
  ·rw[cZ,Xr,XB]at hj;obtain⟨y,hy,rfl⟩:=hj;exact ih j y x hy hx
 |tup caps vs hl aU ih=>
  refine .tup _ vs (by rw[cZ,Xs];exact hl) fun j d x hj hx=>?_;rw[cZ,Xr,XB]at hj;obtain⟨y,hy,rfl⟩:=hj;exact ih j y x hy hx
 |mref k b h=>exact .mref _ b (hb _ _ h)
theorem bA.ren [Flo]{c c2:Cx}{w:World}{ρ:Nat->Nat}{ps:List PV}{vs:List Value}(h:bA c w ps vs)(hM:∀d x,RepD c.M w d x->RepD c2.M w d x)(hb:∀k b,c.bl k=some b->c2.bl (ρ k)=some b)(ho:∀k g u,c.ov k g=some u->c2.ov (ρ k) g=some u):bA c2 w (ps.map (ren ρ)) vs:=by
 refine⟨by rw[Xs];exact h.1,fun j d x hj hx=>?_⟩;rw[Xr,XB]at hj;obtain⟨y,hy,rfl⟩:=hj;exact(h.2 j y x hy hx).ren hM hb ho
mutual
theorem V2 [Flo]{c c1:Cx}{w:World}{ρ:Nat->Nat}{m:Nat}(hM:∀d x,RepD c.M w d x->RepD c1.M w d x)(hb:∀j,j < m->∀b,c.bl (ρ j)=some b->c1.bl j=some b)(ho:∀j,j < m->∀g u,c.ov (ρ j) g=some u->c1.ov j g=some u):∀(p:PV) (v:Value),ay m p=true->RepP c w (ren ρ p) v->RepP c1 w p v
 | .d x,v,_,h=>by
  simp only[Go.Proofs.YtmicljipaiohkaaGreat.ren]at h;cases h with|d _ _ h=>exact .d x v (hM x v h)
 | .any,v,_,_=> .any v
 | .ptr k off,v,hk,h=>by
  simp only[Go.Proofs.YtmicljipaiohkaaGreat.ren]at h;simp only[ay,decide_eq_true_eq]at hk;cases h with|ptr _ _ b h=>exact .ptr k off b (hb k hk b h)
 | .own k g,v,hk,h=>by
  simp only[Go.Proofs.YtmicljipaiohkaaGreat.ren]at h;simp only[ay,decide_eq_true_eq]at hk;cases h with|own _ _ _ h h1=>exact .own k g v (ho k hk g v h) h1
 | .rp k g sz i j,v,hk,h=>by
  simp only[Go.Proofs.YtmicljipaiohkaaGreat.ren]at h;simp only[ay,decide_eq_true_eq]at hk;cases h with|rp _ _ _ _ _ b n cap h=>exact .rp k g sz i j b n cap (ho k hk g _ h)
 | .osl k g sz a n,v,hk,h=>by
  simp only[Go.Proofs.YtmicljipaiohkaaGreat.ren]at h;simp only[ay,decide_eq_true_eq]at hk;cases h with|osl _ _ _ _ _ b o N cap h hn hc h2=>exact .osl k g sz a n b o N cap (ho k hk g _ h) hn hc h2
 | .mref k,v,hk,h=>by
  simp only[Go.Proofs.YtmicljipaiohkaaGreat.ren]at h;simp only[ay,decide_eq_true_eq]at hk;cases h with|mref _ b h=>exact .mref k b (hb k hk b h)
 | .clo g caps,v,hk,h=>by
  simp only[Go.Proofs.YtmicljipaiohkaaGreat.ren]at h;simp only[ay]at hk;cases h with
  |clo _ _ vs hl aU=>
   rw[cZ,Xs]at hl;exact .clo g caps vs hl (qV hM hb ho caps vs hk aU)
 | .agg caps,v,hk,h=>by
  simp only[Go.Proofs.YtmicljipaiohkaaGreat.ren]at h;simp only[ay]at hk;cases h with
  |agg _ vs hl h1 aU=>
   rw[cZ,Xs]at hl;refine .agg caps vs hl (fun d hd=>?_) (qV hM hb ho caps vs hk aU);rw[<-p9 ρ];exact h1 _ (by rw[cZ];exact Y7 hd)
 | .tup caps,v,hk,h=>by
  simp only[Go.Proofs.YtmicljipaiohkaaGreat.ren]at h;simp only[ay]at hk;cases h with
  |tup _ vs hl aU=>
   rw[cZ,Xs]at hl;exact .tup caps vs hl (qV hM hb ho caps vs hk aU)
theorem qV [Flo]{c c1:Cx}{w:World}{ρ:Nat->Nat}{m:Nat}(hM:∀d x,RepD c.M w d x->RepD c1.M w d x)(hb:∀j,j < m->∀b,c.bl (ρ j)=some b->c1.bl j=some b)(ho:∀j,j < m->∀g u,c.ov (ρ j) g=some u->c1.ov j g=some u):∀(l:List PV) (vs:List Value),aw m l=true->(∀(j:Nat) (d:PV) (x:Value),(jx ρ l)[j]? =some d->vs[j]? =some x->RepP c w d x)->∀(j:Nat) (d:PV) (x:Value),l[j]? =some d->vs[j]? =some x->RepP c1 w d x
 |[],_,_,_,j,d,x,hj,_=>by simp at hj
 |p::l,[],_,_,j,d,x,_,hx=>by simp at hx
 |p::l,v::vs,hk,h,j,d,x,hj,hx=>by
  simp only[aw,Xv]at hk;cases j with
  |zero=>
   have e1:p=d:=by simpa using hj
   have e2:v=x:=by simpa using hx
   rw[<-e1,<-e2];exact V2 hM hb ho p v hk.1 (h 0 _ v rfl rfl)
  |succ j=>exact qV hM hb ho l vs hk.2 (fun j d x h1 h2=>h (j+1) d x h1 (by simpa using h2)) j d x (by simpa using hj) (by simpa using hx)
end
theorem uX {m:Nat}{rows:List (List PV)}(h:cB m rows=true):aw m rows.flatten=true:=by
 induction rows with
 |nil=>rfl
 |cons r rows ih=>
  simp only[cB,Xv]at h;have app:∀(a b:List PV),aw m a=true->aw m b=true->aw m (a++b)=true:=by
   intro a b ha hb;induction a with
   |nil=>exact hb
   |cons x a iha=>
    simp only[aw,Xv]at ha;simp only[X5,aw,ha.1,iha ha.2,Yq]
  rw[YR];exact app _ _ h.1 (ih h.2)
def Gs:Act:={tmps:=#[],defers:=[]}
structure MSpec [Flo](P:Program)(f:Nat)(args:List PV)(h0:List Chunk)(r:PV)(h1:List Chunk):Prop where
 fn:zB P f
 le:h0.length<=h1.length
 ba:aw h0.length args=true
 bh:aL h0.length h0=true
 run:∀X:Cfg,X.P=P->X.n=0->X.m=h0.length->∀(w:World) (c:Cx) (vs:List Value),RealC X (bs [] h0) Gs w c->bA c w args vs->
  Calls P f vs.toArray w fun e w'=>∃v c',e= .returned v/\RepP c' w' r v/\RealC X (bs [] h1) Gs w' c'
def eU:List Nat->Nat->Nat->Nat
 |[],nk,j=>nk+j
 |k::_,_,0=>k
 |_::l,nk,j+1=>eU l nk j
theorem ll:∀(ls:List Nat) (nk j:Nat),eU ls nk (ls.length+j)=nk+j
 |[],nk,j=>by simp[eU]
 |k::l,nk,j=>by
  rw[XC,show l.length+1+j=(l.length+j)+1 by omega];exact ll l nk j
theorem nX:∀{ls:List Nat}{nk j:Nat},j < ls.length->ls[j]? =some (eU ls nk j)
 |k::l,nk,0,_=>rfl
 |k::l,nk,j+1,h=>by simpa[eU]using nX (ls:=l) (nk:=nk) (j:=j) (by simpa using h)
theorem BV {ls:List Nat}{nk:Nat}(hn:ls.Nodup)(hlt:∀k∈ls,k < nk){i j:Nat}(h:eU ls nk i=eU ls nk j):i=j:=by
 have old:∀i,i < ls.length->eU ls nk i < nk:=fun i hi=>hlt _ (Xk (nX hi));rcases XL i ls.length with hi|hi<;>rcases XL j ls.length with hj|hj
 ·have h1:=nX (nk:=nk) hi;have h2:=nX (nk:=nk) hj;rw[h]at h1;rw[Xj hi]at h1;rw[Xj hj]at h2;have h3:ls[i]=ls[j]:=XU.inj (h1.trans h2.symm);exact(List.getElem_inj (h₀:=hi) (h₁:=hj) hn).1 h3
 ·have:=old i hi;have h2:=ll ls nk (j - ls.length);rw[show ls.length+(j - ls.length)=j by omega]at h2;omega
 ·have:=old j hj;have h2:=ll ls nk (i - ls.length);rw[show ls.length+(i - ls.length)=i by omega]at h2;omega
 ·have h1:=ll ls nk (i - ls.length);have h2:=ll ls nk (j - ls.length);rw[show ls.length+(i - ls.length)=i by omega]at h1;rw[show ls.length+(j - ls.length)=j by omega]at h2;omega
def lm (ρ:Nat->Nat):Nat->List Chunk->List (Nat × Chunk)
 |_,[]=>[]
 |j,c::l=>(ρ j,mr ρ c)::lm ρ (j+1) l
def bF (h:Nat->Chunk)(ρ:Nat->Nat):Nat->List Chunk->Prop
 |_,[]=>True
 |j,c::l=>h (ρ j)=mr ρ c/\bF h ρ (j+1) l
theorem AC {h:Nat->Chunk}{ρ:Nat->Nat}:∀{l:List Chunk}{i:Nat},bF h ρ i l->∀{j:Nat},j < l.length->h (ρ (i+j))=mr ρ (az l j)
 |c::l,i,⟨h1,h2⟩,0,_=>h1
 |c::l,i,⟨h1,h2⟩,j+1,hj=>by
  have:=AC h2 (j:=j) (by simpa using hj);rw[show i+1+j=i+(j+1) by omega]at this;exact this
theorem tW (ρ:Nat->Nat):∀(l:List Chunk) (i:Nat),(lm ρ i l).map (·.1)=(X4 l.length).map fun j=>ρ (i+j)
 |[],i=>rfl
 |c::l,i=>by
  rw[lm,Xl,tW ρ l (i+1),XC,List.range_succ_eq_map,Xl,Z4];congr 1;refine Y0 fun j _=>?_;simp only[_l];rw[show i+1+j=i+(j+1) by omega]
theorem BW {ρ:Nat->Nat}(WY:∀i j,ρ i=ρ j->i=j){h:Nat->Chunk}:∀(l:List Chunk) (i j:Nat),j < l.length->cw (lm ρ i l) h (ρ (i+j))=mr ρ (az l j)
 |c::l,i,0,_=>by simp[lm,cw,az]
 |c::l,i,j+1,hj=>by
  simp only[lm,cw];rw[af (fun e=>by have:=WY _ _ e;omega)];have:=BW WY (h:=h) l (i+1) j (by simpa using hj);rw[show i+1+j=i+(j+1) by omega]at this;exact this
theorem DD {ρ:Nat->Nat}{h:Nat->Chunk}{k:Nat}:∀(l:List Chunk) (i:Nat),(∀j,j < l.length->ρ (i+j)≠k)->cw (lm ρ i l) h k=h k
 |[],_,_=>rfl
 |c::l,i,hk=>by
  simp only[lm,cw];rw[af (fun e=>hk 0 ak (by simpa using e.symm))];exact DD l (i+1) fun j hj e=>hk (j+1) (by simpa using hj) (by rw[<-e];congr 1;omega)
theorem TQ [Flo]{c c1:Cx}{w:World}{ρ:Nat->Nat}{m j:Nat}{ch:Chunk}(hM:∀d x,RepD c.M w d x->RepD c1.M w d x)(VP:∀b,c1.M b->c.M b)(hb:∀j,j < m->∀b,c.bl (ρ j)=some b->c1.bl j=some b)(ho:∀j,j < m->∀g u,c.ov (ρ j) g=some u->c1.ov j g=some u)
 (SB:c1.bl j=c.bl (ρ j)) (P6:c1.ov j=c.ov (ρ j)) (CU:aQ m ch=true) (h:ChunkOK c w (ρ j) (mr ρ ch)):ChunkOK c1 w j ch:=by
 cases ch with
 |none=>cases h with|none h1 h2=>exact .none (SB.trans h1) (fun g=>by rw[P6];exact h2 g)
 |gone=>exact .gone
 |mp nB sB ents=>cases h with|mp _ _ _ b hb hh hn=>exact .mp nB sB ents b (SB.trans hb) hh hn
 |it nB sB ents seen=>cases h with|it _ _ _ _ b bm hb hh hM hm=>exact .it nB sB ents seen b bm (SB.trans hb) hh (fun h=>hM (VP _ h)) hm
 |box T cells=>
  cases h with
  |box _ _ b vs h1 h2 h3 h4=>
   refine .box T cells b vs (SB.trans h1) h2 ⟨by rw[<-h3.1,cZ,Xs],qV hM hb ho cells vs (by simpa[aQ]using CU) h3.2⟩ (fun d hd=>?_);rw[<-p9 ρ];exact h4 _ (by rw[cZ];exact Y7 hd)
 |row E sz g rows=>
  cases h with
  |row _ _ _ _ v xs h1 h2 h3 h4 h5 h6=>
   rw[DC]at h2;rw[sa]at h3;refine .row E sz g rows v xs (by rw[P6];exact h1) h2 ⟨by rw[<-h3.1,Xs],qV (ρ:=ρ) hM hb ho rows.flatten xs (uX (by simpa[aQ]using CU)) (fun j d x hj hx=>h3.2 j d x (by rw[<-cZ];exact hj) hx)⟩ (fun r hr=>?_) (fun r hr d hd=>?_) (fun g' hg=>by rw[P6];exact h6 g' hg)
   ·have:=h4 (r.map (ren ρ)) (by rw[eY];exact Y7 (f:=(List.map (ren ρ))) hr);simpa using this
   ·have:=h5 (r.map (ren ρ)) (by rw[eY];exact Y7 (f:=(List.map (ren ρ))) hr) (ren ρ d) (Y7 hd);rwa [p9]at this
theorem Qp [Flo]{c c2:Cx}{w:World}{ρ:Nat->Nat}{j:Nat}{ch:Chunk}(hM:∀d x,RepD c.M w d x->RepD c2.M w d x)(VP:∀b,c2.M b->c.M b)(hb:∀k b,c.bl k=some b->c2.bl (ρ k)=some b)(ho:∀k g u,c.ov k g=some u->c2.ov (ρ k) g=some u)
 (SB:c2.bl (ρ j)=c.bl j) (P6:c2.ov (ρ j)=c.ov j) (h:ChunkOK c w j ch):ChunkOK c2 w (ρ j) (mr ρ ch):=by
 cases h with
 |none h1 h2=>exact .none (SB.trans h1) (fun g=>by rw[P6];exact h2 g)
 |gone=>exact .gone
 |mp nB sB ents b hb hh hn=>exact .mp nB sB ents b (SB.trans hb) hh hn
 |it nB sB ents seen b bm hb hh hM hm=>exact .it nB sB ents seen b bm (SB.trans hb) hh (fun h=>hM (VP _ h)) hm
 |box T cells b vs h1 h2 h3 h4=>
  refine .box T _ b vs (SB.trans h1) h2 (by rw[cZ];exact h3.ren hM hb ho) (fun d hd=>?_);rw[cZ]at hd;obtain⟨y,hy,rfl⟩:=XF.1 hd;rw[p9];exact h4 y hy
 |row E sz g rows v xs h1 h2 h3 h4 h5 h6=>
  refine .row E sz g _ v xs (by rw[P6];exact h1) (by rw[DC];exact h2) (by rw[sa];exact h3.ren hM hb ho) (fun r hr=>?_) (fun r hr d hd=>?_) (fun g' hg=>by rw[P6];exact h6 g' hg)
  ·rw[eY]at hr;obtain⟨y,hy,rfl⟩:=XF.1 hr;rw[Xs];exact h4 y hy
  ·rw[eY]at hr;obtain⟨y,hy,rfl⟩:=XF.1 hr;obtain⟨z,hz,rfl⟩:=XF.1 hd;rw[p9];exact h5 y hy z hz
theorem AD {c c1:Cx}{ρ:Nat->Nat}{j:Nat}{ch:Chunk}(hb:c1.bl j=c.bl (ρ j))(ho:c1.ov j=c.ov (ρ j)):c1.block j ch=c.block (ρ j) (mr ρ ch):=by
 cases ch<;>simp[Cx.block,mr,hb,ho]
theorem nh:∀(l:List Chunk) (k:Nat),l.length<=k->az l k= .none
 |[],_,_=>rfl
 |c::l,0,h=>by simp at h
 |c::l,k+1,h=>by simpa[az]using nh l k (by simpa using h)
theorem RealC.back [Flo]{X:Cfg}{s:FS}{a:Act}{w w':World}{c c2:Cx}(hc:RealC X s a w c){h0 h1:List Chunk}{ls:List Nat}{nk:Nat}{X1:Cfg}(hX1:X1.w0=w/\X1.m=h0.length/\
 (∀b,X1.L b↔∃j,j < h0.length/\c.block (eU ls nk j) (s.heap (eU ls nk j))=some b)/\(∀b,X1.M0 b↔c.M b/\¬X1.L b)/\(∀j,j < h0.length->X1.c0.bl j=c.bl (eU ls nk j)/\X1.c0.ov j=c.ov (eU ls nk j)))
 (a1E:h0.length<=h1.length) (hl:ls.length=h0.length) (ml:ls.Nodup) (hlt:∀k∈ls,k < nk) (kr:∀i,h0.length+i < h1.length->s.heap (nk+i)= .none) (LF:X.m<=nk)
 (h:RealC X1 (bs [] h1) Gs w' c2) {p:PV}{v:Value} (hp:RepP c2 w' p v):
 ∃c3,RealC X {s with heap:=cw (lm (eU ls nk) 0 h1) s.heap} a w' c3/\RepP c3 w' (ren (eU ls nk) p) v:=by
 obtain⟨U0,Ac,hL,hM0,LG⟩:=hX1;generalize hρ:eU ls nk=ρ at*;have inj:∀i j,ρ i=ρ j->i=j:=fun i j e=>by rw[<-hρ]at e;exact BV ml hlt e
 have new_id:∀i,ρ (h0.length+i)=nk+i:=fun i=>by rw[<-hρ,<-hl];exact ll ls nk i
 have old_id:∀j,j < h0.length->ρ j < nk:=fun j hj=>by rw[<-hρ];exact hlt _ (Xk (nX aa))
 have new_none:∀j,h0.length<=j->j < h1.length->s.heap (ρ j)= .none:=fun j h2 h3=>by
  have:=new_id (j - h0.length);rw[show h0.length+(j - h0.length)=j by omega]at this;rw[this];exact kr _ aa
 have jM:=h.lent;rw[Ac]at jM;let c3:Cx:={M:=c2.M,bl:=fun k=>open Classical in if e:∃j,j < h1.length/\ρ j=k then c2.bl e.choose else c.bl k,ov:=fun k=>open Classical in if e:∃j,j < h1.length/\ρ j=k then c2.ov e.choose else c.ov k}
 have in_bl:∀j,j < h1.length->c3.bl (ρ j)=c2.bl j/\c3.ov (ρ j)=c2.ov j:=by
  intro j hj;have e:∃i,i < h1.length/\ρ i=ρ j:=⟨j,hj,rfl⟩;have e2:=inj _ _ e.choose_spec.2;refine⟨?_,?_⟩
  ·show (if e:∃i,i < h1.length/\ρ i=ρ j then c2.bl e.choose else c.bl (ρ j))=_;rw[dif_pos e,e2]
  ·show (if e:∃i,i < h1.length/\ρ i=ρ j then c2.ov e.choose else c.ov (ρ j))=_;rw[dif_pos e,e2]
 have off_bl:∀k,(∀j,j < h1.length->ρ j≠k)->c3.bl k=c.bl k/\c3.ov k=c.ov k:=by
  intro k hk;have e:¬∃j,j < h1.length/\ρ j=k:=fun⟨j,h1,h2⟩=>hk j h1 h2;refine⟨?_,?_⟩
  ·show (if e:∃i,i < h1.length/\ρ i=k then c2.bl e.choose else c.bl k)=_;rw[dif_neg e]
  ·show (if e:∃i,i < h1.length/\ρ i=k then c2.ov e.choose else c.ov k)=_;rw[dif_neg e]
 have far:∀j,h1.length<=j->c2.bl j=none/\∀g,c2.ov j g=none:=by
  intro j hj;have:=h.chunk j;rw[show (bs [] h1).heap j= .none from nh h1 j hj]at this;cases this with|none a b=>exact⟨a,b⟩
 have fwd_b:∀k b,c2.bl k=some b->c3.bl (ρ k)=some b:=by
  intro k b hb;rcases XL k h1.length with hk|hk
  ·rw[(in_bl k hk).1];exact hb
  ·rw[(far k hk).1]at hb;cases hb
 have fwd_o:∀k g u,c2.ov k g=some u->c3.ov (ρ k) g=some u:=by
  intro k g u hu;rcases XL k h1.length with hk|hk
  ·rw[(in_bl k hk).2];exact hu
  ·rw[(far k hk).2]at hu;cases hu
 have lent_bl:∀j,j < h0.length->c2.bl j=c.bl (ρ j)/\∀g u,c.ov (ρ j) g=some u->c2.ov j g=some u:=by
  intro j hj;obtain⟨q1,q2⟩:=jM j hj;obtain⟨q3,q4⟩:=LG j hj;exact⟨q1.trans q3,fun g u hu=>q2 g u (by rw[q4];exact hu)⟩
 have hle:c.le c3:=by
  refine⟨fun k b hb=>?_,fun k g u hu=>?_⟩
  ·by_cases e:∃j,j < h1.length/\ρ j=k
   ·obtain⟨j,hj,rfl⟩:=e;rw[(in_bl j hj).1];rcases XL j h0.length with h2|h2
    ·rw[(lent_bl j h2).1];exact hb
    ·have:=hc.chunk (ρ j);rw[new_none j h2 hj]at this;cases this with|none a b2=>rw[a]at hb;cases hb
   ·rw[(off_bl k fun j hj e2=>e ⟨j,hj,e2⟩).1];exact hb
  ·by_cases e:∃j,j < h1.length/\ρ j=k
   ·obtain⟨j,hj,rfl⟩:=e;rw[(in_bl j hj).2];rcases XL j h0.length with h2|h2
    ·exact(lent_bl j h2).2 g u hu
    ·have:=hc.chunk (ρ j);rw[new_none j h2 hj]at this;cases this with|none a b2=>rw[b2]at hu;cases hu
   ·rw[(off_bl k fun j hj e2=>e ⟨j,hj,e2⟩).2];exact hu
 have blk_in:∀j,j < h1.length->c3.block (ρ j) (cw (lm ρ 0 h1) s.heap (ρ j))=c2.block j (az h1 j):=by
  intro j hj;have e:=BW inj (h:=s.heap) h1 0 j hj;rw[Xw]at e;rw[e];exact(AD (in_bl j hj).1.symm (in_bl j hj).2.symm).symm
 have blk_off:∀k,(∀j,j < h1.length->ρ j≠k)->cw (lm ρ 0 h1) s.heap k=s.heap k/\c3.block k (s.heap k)=c.block k (s.heap k):=by
  intro k hk;refine⟨DD h1 0 fun j hj=>by rw[Xw];exact hk j hj,?_⟩;obtain⟨q1,q2⟩:=off_bl k hk;cases s.heap k<;>simp[Cx.block,q1,q2]
 have blk_far:∀j b,c2.block j (az h1 j)=some b->j < h1.length:=by
  intro j b hb;rcases XL j h1.length with hj|hj
  ·exact hj
  ·rw[nh h1 j hj]at hb;cases hb
 have Ad:=h.ext;rw[U0]at Ad;have L_M:∀b,X1.L b->c.M b:=fun b hb=>by
  obtain⟨j,hj,e⟩:=(hL b).1 hb;exact(hc.mu b).2 (.inr ⟨_,e⟩)
 have L_new:∀b,X1.L b->X.L b\/X.w0.heap.size<=b:=fun b hb=>by
  obtain⟨j,hj,e⟩:=(hL b).1 hb;exact(hc.new _ b e).1
 have WZ:=h.mu;have mo:Keep c.M w c3.M w':=by
  refine⟨Ad.size,fun b hb hm=>Ad.block b hb (fun e=>hm (L_M b e)),fun b hb hm=>?_⟩;rcases(WZ b).1 hm with h2|⟨k,h2⟩
  ·exact((hM0 b).1 h2).1
  ·rcases(h.new k b h2).1 with h3|h3
   ·exact L_M b h3
   ·rw[U0]at h3;omega
 have off_L:∀k b,(∀j,j < h1.length->ρ j≠k)->c.block k (s.heap k)=some b->¬X1.L b:=by
  intro k b hk hb hb';obtain⟨j,hj,e⟩:=(hL b).1 hb';exact hk j aa (hc.apart _ _ b e hb)
 refine⟨c3,⟨hc.size,hc.defers,?_,hc.inv,hc.fresh,fun b=>?_,fun k b hb=>?_,fun k k' b hb hb'=>?_,fun t=>(hc.env t).keep hle mo,fun k=>?_,fun k hk=>?_⟩,hp.ren (c2:=c3) (fun _ _ h=>h) fwd_b fwd_o⟩
 ·refine⟨Ad.os.trans hc.ext.os,Ad.tape.trans hc.ext.tape,Ad.output.trans hc.ext.output,Yj hc.ext.size Ad.size,fun b hb P1=>?_⟩;refine(Ad.block b (Ya hb hc.ext.size) fun e=>?_).trans (hc.ext.block b hb P1);rcases L_new b e with h2|h2
  ·exact P1 h2
  ·omega
 ·show c2.M b↔_;rw[WZ b,hM0 b,hc.mu b];constructor
  ·rintro (⟨h2|⟨k,h2⟩,h3⟩|⟨j,h2⟩)
   ·exact .inl h2
   ·refine .inr ⟨k,?_⟩;have hk:∀j,j < h1.length->ρ j≠k:=fun j hj e=>by
     subst e;rcases XL j h0.length with h4|h4
     ·exact h3 ((hL b).2 ⟨j,h4,h2⟩)
     ·rw[new_none j h4 hj]at h2;cases h2
    simp only[(blk_off k hk).1,(blk_off k hk).2];exact h2
   ·refine .inr ⟨ρ j,?_⟩;simp only[blk_in j (blk_far j b h2)];exact h2
  ·rintro (h2|⟨k,h2⟩)
   ·refine .inl ⟨.inl h2,fun e=>?_⟩;obtain⟨h3,h4⟩:=hc.fresh b h2;rcases L_new b e with h5|h5
    ·exact h4 h5
    ·omega
   ·simp only at h2;by_cases e:∃j,j < h1.length/\ρ j=k
    ·obtain⟨j,hj,rfl⟩:=e;rw[blk_in j hj]at h2;exact .inr ⟨j,h2⟩
    ·have hk:∀j,j < h1.length->ρ j≠k:=fun j hj e2=>e ⟨j,hj,e2⟩;rw[(blk_off k hk).1,(blk_off k hk).2]at h2;exact .inl ⟨.inr ⟨k,h2⟩,off_L k b hk h2⟩
 ·simp only at hb;by_cases e:∃j,j < h1.length/\ρ j=k
  ·obtain⟨j,hj,rfl⟩:=e;rw[blk_in j hj]at hb;obtain⟨h2,h3⟩:=h.new j b hb;refine⟨?_,h3⟩;rcases h2 with h2|h2
   ·exact L_new b h2
   ·rw[U0]at h2;exact .inr (Yj hc.ext.size h2)
  ·have hk:∀j,j < h1.length->ρ j≠k:=fun j hj e2=>e ⟨j,hj,e2⟩;rw[(blk_off k hk).1,(blk_off k hk).2]at hb;exact⟨(hc.new k b hb).1,Ya (hc.new k b hb).2 Ad.size⟩
 ·simp only at hb hb';have am:∀j k,j < h1.length->(∀j,j < h1.length->ρ j≠k)->c2.block j (az h1 j)=some b->c.block k (s.heap k)=some b->False:=by
   intro j k hj hk h2 h3;rcases(h.new j b h2).1 with h4|h4
   ·exact off_L k b hk h3 h4
   ·have:=(hc.new k b h3).2;rw[U0]at h4;omega
  by_cases e:∃j,j < h1.length/\ρ j=k
  ·obtain⟨j,hj,rfl⟩:=e;rw[blk_in j hj]at hb;by_cases e':∃j,j < h1.length/\ρ j=k'
   ·obtain⟨j',hj',rfl⟩:=e';rw[blk_in j' hj']at hb';rw[h.apart j j' b hb hb']
   ·have hk:∀j,j < h1.length->ρ j≠k':=fun j hj e2=>e' ⟨j,hj,e2⟩;rw[(blk_off k' hk).1,(blk_off k' hk).2]at hb';exact(am j k' hj hk hb hb').elim
  ·have hk:∀j,j < h1.length->ρ j≠k:=fun j hj e2=>e ⟨j,hj,e2⟩;rw[(blk_off k hk).1,(blk_off k hk).2]at hb;by_cases e':∃j,j < h1.length/\ρ j=k'
   ·obtain⟨j',hj',rfl⟩:=e';rw[blk_in j' hj']at hb';exact(am j' k hj' hk hb' hb).elim
   ·have hk':∀j,j < h1.length->ρ j≠k':=fun j hj e2=>e' ⟨j,hj,e2⟩;rw[(blk_off k' hk').1,(blk_off k' hk').2]at hb';exact hc.apart k k' b hb hb'
 ·simp only;by_cases e:∃j,j < h1.length/\ρ j=k
  ·obtain⟨j,hj,rfl⟩:=e;have e2:=BW inj (h:=s.heap) h1 0 j hj;rw[Xw]at e2;rw[e2];exact Qp (c:=c2) (c2:=c3) (fun _ _ h=>h) (fun _ h=>h) fwd_b fwd_o (in_bl j hj).1 (in_bl j hj).2 (h.chunk j)
  ·have hk:∀j,j < h1.length->ρ j≠k:=fun j hj e2=>e ⟨j,hj,e2⟩;rw[(blk_off k hk).1];exact(hc.chunk k).keep hle mo (fun b hb=>Ad.block b (hc.new k b hb).2 (off_L k b hk hb)) (off_bl k hk).1 (off_bl k hk).2
 ·obtain⟨q1,q2⟩:=hc.lent k hk;by_cases e:∃j,j < h1.length/\ρ j=k
  ·obtain⟨j,hj,rfl⟩:=e;have W3:j < h0.length:=by
    rcases XL j h0.length with h2|h2
    ·exact h2
    ·have:=new_id (j - h0.length);rw[show h0.length+(j - h0.length)=j by omega]at this;omega
   rw[(in_bl j hj).1,(in_bl j hj).2];exact⟨(lent_bl j W3).1.trans q1,fun g u hu=>(lent_bl j W3).2 g u (q2 g u hu)⟩
  ·have hk':∀j,j < h1.length->ρ j≠k:=fun j hj e2=>e ⟨j,hj,e2⟩;rw[(off_bl k hk').1,(off_bl k hk').2];exact⟨q1,q2⟩
theorem RealC.lend [Flo]{X:Cfg}{s:FS}{a:Act}{w:World}{c:Cx}(hc:RealC X s a w c){h0:List Chunk}{ls:List Nat}{nk:Nat}(hl:ls.length=h0.length)(ml:ls.Nodup)(hlt:∀k∈ls,k < nk)(CU:aL h0.length h0=true)(jM:bF s.heap (eU ls nk) 0 h0):
 ∃X1 c1,(X1.P=X.P/\X1.n=0/\X1.m=h0.length)/\(X1.w0=w/\X1.m=h0.length/\
  (∀b,X1.L b↔∃j,j < h0.length/\c.block (eU ls nk j) (s.heap (eU ls nk j))=some b)/\(∀b,X1.M0 b↔c.M b/\¬X1.L b)/\(∀j,j < h0.length->X1.c0.bl j=c.bl (eU ls nk j)/\X1.c0.ov j=c.ov (eU ls nk j)))/\
  RealC X1 (bs [] h0) Gs w c1/\(∀(ps:List PV) (vs:List Value),aw h0.length ps=true->bA c w (jx (eU ls nk) ps) vs->bA c1 w ps vs):=by
 generalize hρ:eU ls nk=ρ at*;have inj:∀i j,ρ i=ρ j->i=j:=fun i j e=>by rw[<-hρ]at e;exact BV ml hlt e
 let c1:Cx:={M:=c.M,bl:=fun j=>if j < h0.length then c.bl (ρ j)else none,ov:=fun j g=>if j < h0.length then c.ov (ρ j) g else none}
 have b1:∀j,j < h0.length->c1.bl j=c.bl (ρ j)/\c1.ov j=c.ov (ρ j):=fun j hj=>⟨ah hj,funext fun g=>ah hj⟩;have lent:∀j,j < h0.length->s.heap (ρ j)=mr ρ (az h0 j):=fun j hj=>by
  have:=AC jM (j:=j) hj;rwa [Xw]at this
 have oU:∀j,j < h0.length->c1.block j (az h0 j)=c.block (ρ j) (s.heap (ρ j)):=fun j hj=>by
  rw[lent j hj];exact AD (b1 j hj).1 (b1 j hj).2
 have far:∀j b,c1.block j (az h0 j)=some b->j < h0.length:=fun j b hb=>by
  rcases XL j h0.length with hj|hj
  ·exact hj
  ·rw[nh h0 j hj]at hb;cases hb
 have hb:∀j,j < h0.length->∀b,c.bl (ρ j)=some b->c1.bl j=some b:=fun j hj b h=>by rw[(b1 j hj).1];exact h
 have ho:∀j,j < h0.length->∀g u,c.ov (ρ j) g=some u->c1.ov j g=some u:=fun j hj g u h=>by rw[(b1 j hj).2];exact h
 have below_at:∀(l:List Chunk) (j:Nat),aL h0.length l=true->aQ h0.length (az l j)=true:=fun l j h=>tV h j;refine⟨{P:=X.P,n:=0,m:=h0.length,w0:=w,M0:=fun b=>c.M b/\¬∃j,j < h0.length/\c.block (ρ j) (s.heap (ρ j))=some b,L:=fun b=>∃j,j < h0.length/\c.block (ρ j) (s.heap (ρ j))=some b,c0:=c1},c1,⟨rfl,rfl,rfl⟩,
  ⟨rfl,rfl,fun b=>Iff.rfl,fun b=>Iff.rfl,fun j hj=>b1 j hj⟩,⟨rfl,rfl,ExtL.refl _ _,hc.ginv.keep ⟨XA _,fun _ _ _=>rfl,fun b _ h=>h.elim And.left fun⟨j,_,hj⟩=>(hc.mu b).2 (.inr ⟨_,hj⟩)⟩,fun b hb=>⟨hc.lt hb.1,hb.2⟩,fun b=>?_,fun k b hk=>?_,fun k k' b hk hk'=>?_,fun t=> .any _,fun k=>?_,fun k _=>⟨rfl,fun _ _ h=>h⟩⟩,fun ps vs mA hr=>?_⟩
 ·show c.M b↔_;by_cases e:∃j,j < h0.length/\c.block (ρ j) (s.heap (ρ j))=some b
  ·constructor
   ·intro _;obtain⟨j,hj,h2⟩:=e;exact .inr ⟨j,by rw[show (bs [] h0).heap j=az h0 j from rfl,oU j hj];exact h2⟩
   ·intro _;obtain⟨j,hj,h2⟩:=e;exact(hc.mu b).2 (.inr ⟨_,h2⟩)
  ·constructor
   ·intro hm;exact .inl ⟨hm,e⟩
   ·rintro (h2|⟨j,h2⟩)
    ·exact h2.1
    ·have hj:=far j b h2;exact absurd ⟨j,hj,by rw[<-oU j hj];exact h2⟩ e
 ·have hj:=far k b hk;have h2:c.block (ρ k) (s.heap (ρ k))=some b:=by rw[<-oU k hj];exact hk
  exact⟨.inl ⟨k,hj,h2⟩,(hc.new _ b h2).2⟩
 ·have hj:=far k b hk;have hj':=far k' b hk';have h2:c.block (ρ k) (s.heap (ρ k))=some b:=by rw[<-oU k hj];exact hk
  have h3:c.block (ρ k') (s.heap (ρ k'))=some b:=by rw[<-oU k' hj'];exact hk'
  exact inj _ _ (hc.apart _ _ b h2 h3)
 ·rcases XL k h0.length with hk|hk
  ·have bo:=hc.chunk (ρ k);rw[lent k hk]at bo;exact TQ (c:=c) (c1:=c1) (ρ:=ρ) (fun _ _ h=>h) (fun _ h=>h) hb ho (b1 k hk).1 (b1 k hk).2 (below_at h0 k CU) bo
  ·rw[show (bs [] h0).heap k= .none from nh h0 k hk];exact .none (af aa) fun g=>af aa
 ·exact⟨by rw[<-hr.1,cZ,Xs],qV (c:=c) (c1:=c1) (ρ:=ρ) (fun _ _ h=>h) hb ho ps vs mA hr.2⟩
theorem uY {h h':Nat->Chunk}{ρ:Nat->Nat}:∀{l:List Chunk}{i:Nat},bF h ρ i l->(∀j,j < l.length->h' (ρ (i+j))=h (ρ (i+j)))->bF h' ρ i l
 |[],_,_,_=>trivial
 |c::l,i,⟨h1,h2⟩,hs=>⟨(hs 0 ak).trans h1,uY h2 fun j hj=>by
  have:=hs (j+1) (by simpa using hj);rw[show i+1+j=i+(j+1) by omega];exact this⟩
theorem DE [Flo]{X:Cfg}{ops:Array Oper}{s:FS}{o:Oper}(hd:∀d,o.dst=some d->d < X.n){fo:Operand}{args:Array Operand}{tys:Array Nat}{g:Nat}{caps margs:List PV}{h0 h1:List Chunk}{r:PV}{ls:List Nat}{nk:Nat}(ho:o.op= .call {callee:= .value fo,args:=args,argTypes:=tys})
 (hf:ev s fo= .clo g caps\/∃cd:List D,ev s fo= .d (.clo g cd)/\caps=cd.map .d) (hM:MSpec X.P g margs h0 r h1) (ha:args.toList.map (ev s)++caps=jx (eU ls nk) margs)
 (hl:ls.length=h0.length) (ml:ls.Nodup) (hlt:∀k∈ls,k < nk) (jM:bF s.heap (eU ls nk) 0 h0) (kr:∀i,h0.length+i < h1.length->s.heap (nk+i)= .none) (LF:X.m<=nk):
 bH X ops s o {pv:=ren (eU ls nk) r,eff:=lm (eU ls nk) 0 h1,touch:=(X4 h1.length).map (eU ls nk)}:=by
 refine⟨hd,fun kc h=>?_,fun s' he iH a w hr K Q hK=>?_⟩
 ·have h2:=Y7 (f:=(·.1)) h;rw[tW]at h2;simpa using h2
 obtain⟨c,hc⟩:=hr;have dM:∀j,j < h1.length->s'.heap (eU ls nk j)=s.heap (eU ls nk j):=fun j hj=>iH _ (Y7 (YO.2 hj));have U1:=uY (h':=s'.heap) jM fun j hj=>by
  rw[Xw];exact dM j (Ya hj hM.le)
 have W4:∀i,h0.length+i < h1.length->s'.heap (nk+i)= .none:=fun i hi=>by
  have:=ll ls nk i;rw[hl]at this;rw[<-this,dM _ hi,this];exact kr i hi
 have uK:∀x,(x=fo\/x∈args)->ev s' x=ev s x:=fun x hx=>BJ he x (by
  rw[ho];simp only[Op.operands,Call.operands];rcases hx with rfl|hx
  ·simp
  ·simp[hx])
 obtain⟨fvs,SA,wh,HN⟩:∃fvs:List Value,a.eval fo= .func (.func g) #[] fvs.toArray/\caps.length=fvs.length/\∀(j:Nat) (p:PV) (x:Value),caps[j]? =some p->fvs[j]? =some x->RepP c w p x:=a2c
 have vN:bA c w (jx (eU ls nk) margs) (args.toList.map a.eval++fvs):=by
  rw[<-ha];refine⟨by simp[wh],fun j p x hp hx=>?_⟩;by_cases hlt:j < args.toList.length
  ·exact a2x
  ·exact a4a
 obtain⟨X1,c1,⟨e1,e2,e3⟩,hX1,qw,mA⟩:=hc.lend hl ml hlt hM.bh U1;have jL:=hM.run X1 e1 e2 e3 w c1 (args.toList.map a.eval++fvs) qw (mA _ _ hM.ba vN);have cg:(execOp a.eval o).run X.P w= .ok (.enter g (args.toList.map a.eval++fvs).toArray) w:=by
  have e:(args.toList.map a.eval++fvs).toArray=args.map a.eval++fvs.toArray:=by
   apply _q;simp
  rw[e];simp[execOp,ho,resolve,SA,Deferred.ofValue,invoke];exact hM.fn _ _
 unfold Oper.wp;rw[cg,Oper.upon_enter];refine jL.mono ?_;rintro e w' ⟨v,c2,rfl,hv,kU⟩;obtain⟨c3,g1,g2⟩:=hc.back hX1 hM.le hl ml hlt W4 LF kU hv;exact hK v w' ⟨c3,g1.put g2 hd⟩
theorem AE:∀{eff:List (Nat × Chunk)}{h:Nat->Chunk},(∀kc∈eff,h kc.1=kc.2)->cw eff h=h
 |[],_,_=>rfl
 |(k,c)::l,h,hs=>by
  funext k';simp only[cw];split
  ·rename_i e;subst e;exact(hs (k',c) (P' ..)).symm
  ·rw[AE fun kc hk=>hs kc (by simp[hk])]
theorem Qq [Flo]{X:Cfg}{ops:Array Oper}{s:FS}{o:Oper}{r:Res}(h:bH X ops s o r)(he:∀kc∈r.eff,s.heap kc.1=kc.2):bH X ops s o {r with eff:=[]}:=by
 refine⟨h.1,by simp,fun s' h1 h2 a w hr K Q hK=>h.2.2 s' h1 h2 a w hr K Q fun v w' hr'=>hK v w' ?_⟩;have:cw r.eff s'.heap=s'.heap:=AE fun kc hk=>by rw[h2 _ (h.2.1 kc hk)];exact he kc hk
 have e2:s'.app o.dst r=s'.app o.dst {r with eff:=[]}:=by
  unfold FS.app;rw[this];rfl
 rw[<-e2];exact hr'
theorem AF {h:Nat->Chunk}{ρ:Nat->Nat}:∀{l:List Chunk}{i:Nat},bF h ρ i l->∀kc∈lm ρ i l,h kc.1=kc.2
 |[],_,_,kc,hk=>by simp[lm]at hk
 |c::l,i,⟨h1,h2⟩,kc,hk=>by
  simp only[lm,XY]at hk;rcases hk with rfl|hk
  ·exact h1
  ·exact AF h2 kc hk
theorem Mr [Flo]{X:Cfg}{ops:Array Oper}{s:FS}{o:Oper}(hd:∀d,o.dst=some d->d < X.n){fo:Operand}{args:Array Operand}{tys:Array Nat}{g:Nat}{caps margs:List PV}{h0:List Chunk}{r:PV}{ls:List Nat}{nk:Nat}(ho:o.op= .call {callee:= .value fo,args:=args,argTypes:=tys})
 (hf:ev s fo= .clo g caps\/∃cd:List D,ev s fo= .d (.clo g cd)/\caps=cd.map .d) (hM:MSpec X.P g margs h0 r h0) (ha:args.toList.map (ev s)++caps=jx (eU ls nk) margs)
 (hl:ls.length=h0.length) (ml:ls.Nodup) (hlt:∀k∈ls,k < nk) (jM:bF s.heap (eU ls nk) 0 h0) (LF:X.m<=nk):
 bH X ops s o {pv:=ren (eU ls nk) r,eff:=[],touch:=(X4 h0.length).map (eU ls nk)}:=
 Qq (DE hd ho hf hM ha hl ml hlt jM (fun i hi=>by omega) LF) (AF jM)
theorem a3M {p:Prop}(h:p:=by
 simp at h1 h2;subst h1;subst h2;exact .d _ _ (.v _)):p:=h
theorem a4F {p:Prop}(h:p:=by
 simp at h1 h2;subst h1;exact .any _):p:=h
theorem pi (s:Bool):∀(l:List (List Int × Int)) (j i:Nat),(bx s l j)[i]? =(l[i]?).map fun kv=>{key:=jR s kv.1,val:= .int .i64 kv.2,born:=j+i}
 |[],j,i=>by simp[bx]
 |(k,v)::l,j,0=>by simp[bx]
 |(k,v)::l,j,i+1=>by
  simp only[bx,Yw];rw[pi s l (j+1) i];simp only[show j+1+i=j+(i+1) by omega]
theorem ln (s:Bool):∀(l:List (List Int × Int)) (j:Nat),∀x∈bx s l j,j<=x.born/\x.born < j+l.length
 |[],j,x,hx=>by simp[bx]at hx
 |(k,v)::l,j,x,hx=>by
  simp only[bx,XY]at hx;rcases hx with rfl|hx
  ·simp
  ·have:=ln s l (j+1) x hx;simp only[XC];omega
theorem qE (s:Bool):∀(l:List (List Int × Int)) (j:Nat),((bx s l j).map (·.born)).Nodup
 |[],j=>by simp[bx]
 |(k,v)::l,j=>by
  simp only[bx,Xl,List.nodup_cons,XF,not_exists,not_and];exact⟨fun x hx e=>by have:=(ln s l (j+1) x hx).1;omega,qE s l (j+1)⟩
theorem RealC.range [Flo]{X:Cfg}{s:FS}{a:Act}{w:World}{c:Cx}(h:RealC X s a w c){k nk n b:Nat}{sB:Bool}{ents:List (List Int × Int)}(hk:s.heap k= .mp n sB ents)(W5:s.heap nk= .none)(LF:¬nk < X.m)(hb:c.bl k=some b)(hh:w.heap[b]? =some (.map (bx sB ents 0).toArray ents.length)):
 ∃c',RealC X {s with heap:=cw [(nk,.it n sB ents []),(k,.gone)] s.heap} a (w.alloc (.mapIter (some b) ents.length #[] ents.length)) c'/\RepP c' (w.alloc (.mapIter (some b) ents.length #[] ents.length)) (.ptr nk 0) (.pointer (some ⟨w.heap.size,0,none⟩)):=by
 have h1:=h.freeze [k];have bG:nk≠k:=fun e=>by rw[e,hk]at W5;cases W5
 have W6:cw ([k].map fun k=>(k,Chunk.gone)) s.heap nk= .none:=by
  simp only[Xl,Xp,cw,af bG];exact W5
 have bo:=h1.chunk nk;simp only at bo;rw[W6]at bo;have hlt:b < w.heap.size:=(Yo.1 hh).1;cases bo with
 |none qq WO=>
  have hx:=j4 w (.mapIter (some b) ents.length #[] ents.length);have bW:(fun k'=>if k'=nk then some w.heap.size else c.bl k') nk=some w.heap.size:=ah rfl;refine⟨{M:=fun b=>li c s.heap [k] b\/b=w.heap.size,bl:=fun k'=>if k'=nk then some w.heap.size else c.bl k',ov:=c.ov},?_,.ptr nk 0 _ bW⟩;refine h1.new_chunk (ch:= .it n sB ents []) W6 LF hx ⟨fun k' b hb=>?_,fun _ _ _ h=>h⟩ (fun k' bG=>af bG) (fun _ _=>rfl) (fun b=>?_) (fun b hb=>?_) (fun mo=>?_)
  ·have:k'≠nk:=fun e=>by subst e;rw[qq]at hb;cases hb
   show (if k'=nk then some w.heap.size else c.bl k')=some b;rw[af this];exact hb
  ·exact a2A
  ·exact a3r
  ·refine .it n sB ents [] w.heap.size b bW (jt w _) (fun hM=>?_) (by rw[hx.block b hlt];exact hh);rcases hM with hM|hM
   ·exact hM.2 k ak (by rw[hk];exact hb)
   ·omega
section
variable {X:Cfg}{ops:Array Oper}{s:FS}{o:Oper}(hd:∀d,o.dst=some d->d < X.n)
include hd
theorem Ms [Flo]{t k nk n:Nat}{sB:Bool}{m:Operand}{ents:List (List Int × Int)}(ho:o.op= .range t m)(hm:MapOK X.P t n sB)(WV:ev s m= .mref k)(hk:s.heap k= .mp n sB ents)(W5:s.heap nk= .none)(vL:¬nk < X.m):
 bH X ops s o {pv:= .ptr nk 0,eff:=[(nk,.it n sB ents []),(k,.gone)],touch:=[k,nk]}:=
 d9 hd (fun kc h=>by simp at h;rcases h with rfl|rfl<;>simp) fun s' he iH a w c hc=>by
  have e1:=bI hc m;rw[he m (by simp[ho,Op.operands]),WV]at e1;have hk':s'.heap k= .mp n sB ents:=by rw[iH k ak];exact hk
  have bo:=hc.chunk k;rw[hk']at bo;generalize hu:a.eval m=u at e1;cases e1 with
  |mref _ b hb=>
   cases bo with
   |mp _ _ _ b' hb' hh hn=>
    rw[hb]at hb';cases hb';obtain⟨c',h1,h2⟩:=hc.range hk' (by rw[iH nk ak];exact W5) vL hb hh;obtain⟨kt,et,i,hut,-⟩:=hm;refine⟨_,_,_,?_,.inl rfl,c',h1,h2⟩;simp only[execOp,ho,hu];rw[Sem.run_bind,run_range_map w t kt et b _ _ hut hh];rfl
theorem Mt [Flo]{k n i:Nat}{sB:Bool}{x:Operand}{ents:List (List Int × Int)}{seen:List Nat}{kv:List Int × Int}(ho:o.op= .entry x)(hx:ev s x= .ptr k 0)(hk:s.heap k= .it n sB ents seen)(hl:seen.getLast? =some i)(hi:ents[i]? =some kv):
 bH X ops s o {pv:= .tup [.any,.d (.v (.int .i64 kv.2))],touch:=[k]}:=
 aM hd fun s' he iH a w c hc=>by
  have e1:=bI hc x;rw[he x (by simp[ho,Op.operands]),hx]at e1;have hk':s'.heap k= .it n sB ents seen:=by rw[iH k ak];exact hk
  have bo:=hc.chunk k;rw[hk']at bo;generalize hu:a.eval x=u at e1;cases e1 with
  |ptr _ _ b hb=>
   cases bo with
   |it _ _ _ _ b' bm hb' hh hM hm=>
    rw[hb]at hb';cases hb';obtain⟨pre,rfl⟩:∃pre,seen=pre++[i]:=by
     rw[List.getLast?_eq_some_iff]at hl;exact hl
    have hg:=pi sB ents 0 i;rw[hi]at hg;have hh2:w.heap[b]? =some (.mapIter (some bm) ents.length (pre.toArray.push i) ents.length):=by rw[hh];simp
    have cg:=run_entry_at (P:=X.P) w b bm ents.length pre.toArray (bx sB ents 0).toArray ents.length {key:=jR sB kv.1,val:= .int .i64 kv.2,born:=i} hh2 hm (by
     have:=Xk hg;simpa using this) (by simpa using qE sB ents 0)
    refine⟨.tuple #[jR sB kv.1,.int .i64 kv.2],?_,.tup _ [jR sB kv.1,.int .i64 kv.2] rfl ?_⟩
    ·simp only[execOp,ho,hu];rw[Sem.run_bind,cg];rfl
    ·intro j d y h1 h2;match j with
     |0=>exact a4F
     |1=>exact a3M
     |j+2=>simp at h1
end
theorem a3h {p:Prop}(h:p:=by
 have:=tk.arr;rw[ha]at this;cases d<;>simp[Md]at this;rw[this.1,this.2]):p:=h
theorem a3z {p:Prop}(h:p:=by
 have:=tk.kind;rw[hk]at this;cases d<;>simp[qA]at this;rfl):p:=h
theorem a3I {p:Prop}(h:p:=by
 simp[BK]at hr;obtain⟨h0,rfl⟩:=hr;simp[execOp,ho,h1,h2,eqGuard,binOp,Op.shift,Int.not_lt.2 h0]):p:=h
theorem a4u {p:Prop}(h:p:=by
 cases e1;rcases hr with⟨rfl,rfl⟩|⟨rfl,rfl⟩<;>simp[binOp,hq]):p:=h
theorem Qr {a b:ByteArray}:(a.toList==b.toList)=decide (a=b):=by
 rw[ByteArray.toList_eq,ByteArray.toList_eq,Yi,beq_iff_eq,decide_eq_true_iff];exact⟨fun h=>ByteArray.ext (_q h),fun h=>by rw[h]⟩
def BX (s:ByteArray)(i:Nat):Int:=((s.data.toList.getD i 0).toNat:Int)
theorem Gt {s:ByteArray}{i:Nat}(h:i < s.size):s[i]? =some (s.data.toList.getD i 0):=by
 have h2:i < s.data.size:=h;rw[getElem?_pos s i h];congr 1;rw[XJ,X6,YM h2];rfl
def pk:List (List D)->Option (List Int)
 |[]=>some []
 |[.v (.int .u8 n)]::l=>(pk l).map (n:: ·)
 |_=>none
theorem AG:∀{rows:List (List D)}{xs:List Int},pk rows=some xs->rows=xs.map fun n=>[.v (.int .u8 n)]
 |[],xs,h=>by simp[pk]at h;subst h;rfl
 |r::rows,xs,h=>by
  unfold pk at h;split at h
  ·rename_i e;cases e
  ·rename_i n l e;cases e;cases hb:pk rows with
   |none=>rw[hb]at h;cases h
   |some ys=>
    rw[hb]at h;cases h;rw[AG hb];rfl
  ·cases h
section
variable {X:Cfg}{ops:Array Oper}{s:FS}{o:Oper}(hd:∀d,o.dst=some d->d < X.n)
include hd
theorem JH [Flo]{t t':Nat}{x y:Operand}{a b:ByteArray}(ho:o.op= .binOp .add t x y t')(hx:ev s x= .d (.v (.string a)))(hy:ev s y= .d (.v (.string b)))(hl:a.size+b.size<=9223372036854775807):
 bH X ops s o {pv:= .d (.v (.string (a++b)))}:=
 aM hd fun s' he _ ac w c hc=>by
  have h1:=di hc ((he x (by simp[ho,Op.operands])).trans hx);have h2:=di hc ((he y (by simp[ho,Op.operands])).trans hy);have hr:=run_string_add_sum (P:=X.P) w a b aa;refine⟨.string (a++b),?_,.d _ _ (.v _)⟩;simp[execOp,ho,h1,h2,eqGuard,binOp,hr]
theorem DF [Flo]{op:BinOp}{t t':Nat}{x y:Operand}{a b:ByteArray}{r:Bool}(ho:o.op= .binOp op t x y t')(hx:ev s x= .d (.v (.string a)))(hy:ev s y= .d (.v (.string b)))(hr:(op= .eql/\r=decide (a=b))\/(op= .neq/\r=!decide (a=b))):
 bH X ops s o {pv:= .d (.v (.bool r))}:=
 aM hd fun s' he _ ac w c hc=>by
  have h1:=di hc ((he x (by simp[ho,Op.operands])).trans hx);have h2:=di hc ((he y (by simp[ho,Op.operands])).trans hy);refine⟨.bool r,?_,.d _ _ (.v _)⟩;rcases hr with⟨rfl,rfl⟩|⟨rfl,rfl⟩<;>simp[execOp,ho,h1,h2,eqGuard,binOp,Op.stringOp,Qr]
theorem JI [Flo]{t:Nat}{x:Operand}{a:ByteArray}{ti:TI}(ho:o.op= .call {callee:= .builtin .len,args:=#[x],argTypes:=#[t]})(ht:aV X.P t=some ti)(hk:ti.kind=2)(hx:ev s x= .d (.v (.string a))):
 bH X ops s o {pv:= .d (.v (.int .i64 a.size))}:=
 aM hd fun s' he _ ac w c hc=>by
  have h1:=di hc ((he x (by simp[ho,Op.operands,Call.operands])).trans hx);obtain⟨i,d,z,tk⟩:=iW ht;have lg:d= .string:=a3z
  subst lg;refine⟨.int .i64 a.size,?_,.d _ _ (.v _)⟩;simp[execOp,ho,h1,resolve,invoke,builtin,Builtin.len_,run_underlying tk.und,goInt]
theorem DG [Flo]{t:Nat}{x y:Operand}{a:ByteArray}{k:IntKind}{n:Int}{ti:TI}(ho:o.op= .index t x y)(ht:aV X.P t=some ti)(hk:ti.kind=2)(hx:ev s x= .d (.v (.string a)))(hy:ev s y= .d (.v (.int k n)))(hn:0<=n)(hlt:n.toNat < a.size):
 bH X ops s o {pv:= .d (.v (.int .u8 (BX a n.toNat)))}:=
 aM hd fun s' he _ ac w c hc=>by
  have h1:=di hc ((he x (by simp[ho,Op.operands])).trans hx);have h2:=di hc ((he y (by simp[ho,Op.operands])).trans hy);obtain⟨i,d,z,tk⟩:=iW ht;have lg:d= .string:=a3z
  subst lg;refine⟨.int .u8 (BX a n.toNat),?_,.d _ _ (.v _)⟩;simp[execOp,ho,h1,h2,Instr.index,asIntOf,run_underlying tk.und,hn,Gt hlt,BX]
theorem DH [Flo]{t:Nat}{x:Operand}{lo hi:Option Operand}{a:ByteArray}{ti:TI}{l h:Nat}(ho:o.op= .slice t x lo hi none)(ht:aV X.P t=some ti)(hk:ti.kind=2)
 (hx:ev s x= .d (.v (.string a))) (jr:H6 (lo.map (ev s))=some l) (kZ:H7 a.size (hi.map (ev s))=some h) (h1:l<=h) (h2:h<=a.size):bH X ops s o {pv:= .d (.v (.string (a.extract l h)))}:=
 aM hd fun s' he _ ac w c hc=>by
  have e1:=di hc ((he x (by simp[ho,Op.operands])).trans hx);rw[<-wQ (s:=s) (s':=s') (fun y hy=>he y (by simp[ho,Op.operands,hy]))]at jr kZ;have b1:=pf hc jr;have b2:=pg hc kZ;obtain⟨i,d,z,tk⟩:=iW ht;have lg:d= .string:=a3z
  subst lg;refine⟨.string (a.extract l h),?_,.d _ _ (.v _)⟩;have g1:(0:Int)<=(l:Int):=aa;have g2:(0:Int)<=(h:Int):=aa;have g3:(l:Int)<=(h:Int):=aa;have g4:(h:Int)<=(a.size:Int):=aa;simp only[execOp,ho,e1,Zf];generalize lo.map ac.eval=lo' at b1;generalize hi.map ac.eval=hi' at b2;rcases b1 with⟨rfl,rfl⟩|⟨k,rfl⟩<;>rcases b2 with⟨rfl,rfl⟩|⟨k',rfl⟩<;>
   simp[Instr.sliceAt,Instr.slice,run_underlying tk.und,Instr.sliceBounds,Instr.sliceBound,asIntOf,g1,g2,g3,g4,h1,h2,ZX.2 h1,ZX.2 h2]
theorem DI [Flo]{src dst e:Nat}{x:Operand}{rows:List (List D)}{xs:List Int}{ts td te:TI}(ho:o.op= .convert src dst x)(hs:aV X.P src=some ts)(ht:aV X.P dst=some td)(he':ts.elem=some e)(iD:aV X.P e=some te)(hi:te.int=some .u8)(hk:td.kind=2)
 (hx:ev s x= .d (.sl 1 rows)) (hb:pk rows=some xs):bH X ops s o {pv:= .d (.v (.string (strOfNums xs)))}:=
 aM hd fun s' he _ ac w c hc=>by
  have e1:=bI hc x;rw[he x (by simp[ho,Op.operands]),hx]at e1;generalize hu:ac.eval x=u at e1;have e1:=ck e1;obtain⟨i,d,z,tk⟩:=iW hs;obtain⟨i2,d2,z2,tk2⟩:=iW ht;obtain⟨i3,d3,z3,tk3⟩:=iW iD;have SC:d= .slice e:=a1V
  have zm:d2= .string:=by
   have:=tk2.kind;rw[hk]at this;cases d2<;>simp[qA]at this;rfl
  have W7:d3= .int .u8:=by
   have:=tk3.int;rw[hi]at this;cases d3<;>simp[Qj]at this;rw[this]
  subst SC zm W7;have Pk:=AG hb;refine⟨.string (strOfNums xs),?_,.d _ _ (.v _)⟩;cases e1 with
  |nil _ ao cap hm=>
   have:xs=[]:=by cases xs with|nil=>rfl|cons a l=>simp at Pk
   subst this;simp only[execOp,ho,hu];rw[Sem.run_bind,run_convert_bytes_string w src dst e ao 0 cap tk.und tk3.und tk2.und];cases ao with
   |none=>rfl
   |some a=>
    have hl:(loadCells a 0).run X.P w= .ok (([]:List Int).map (Value.int .u8)).toArray w:=by simp[loadCells,loadCellsFrom]
    rw[run_bytesToString w a 0 cap [] hl];rfl
  |sl _ _ b off cap f hM uJ gB hm hr h1' cf aU=>
   have bP:rows.length=xs.length:=by rw[Pk,Xs]
   have hce:∀i,i < rows.length->w.cell? ⟨b,off+i,none⟩=some (.int .u8 (xs.getD i 0)):=fun i hi=>by
    have h0:=cf i 0 hi aa;rw[_g,XG]at h0;rw[h0];obtain⟨n,hn⟩:∃n,xs[i]? =some n:=⟨_,Xj aa⟩;have h2:=aU i 0 [.v (.int .u8 n)] (.v (.int .u8 n)) (by rw[Pk,Xr,hn];rfl) rfl;rw[XJ,hn,YD];generalize f i 0=fv at h2;cases h2;rfl
   have hr':=run_convert_bytes_arg (P:=X.P) w src e tk.und tk3.und b off rows.length cap xs bP.symm hce dst tk2.und;simp only[execOp,ho,hu];rw[Sem.run_bind,hr'];rfl
theorem Gu [Flo]{t e n sz k off:Nat}{x y:Operand}{kd:IntKind}{i:Int}{ti te:TI}(ho:o.op= .indexAddr t x y)(ht:aV X.P t=some ti)(ha:ti.arr=some (n,e))(iD:aV X.P e=some te)(cK:te.size=sz)
 (hx:ev s x= .ptr k off) (hy:ev s y= .d (.v (.int kd i))) (hi:0<=i) (hlt:i.toNat < n):bH X ops s o {pv:= .ptr k (off+i.toNat*sz)}:=
 aM hd fun s' he _ ac w c hc=>by
  have e1:=bI hc x;rw[he x (by simp[ho,Op.operands]),hx]at e1;have e2:=di hc ((he y (by simp[ho,Op.operands])).trans hy);generalize hu:ac.eval x=u at e1;obtain⟨ii,d,z,tk⟩:=iW ht;obtain⟨ie,de,ze,tke⟩:=iW iD;have lg:d= .array n e:=a3h
  subst lg;cases e1 with
  |ptr _ _ b hb=>
   have tz:0<=i/\i < (n:Int):=⟨hi,by omega⟩;refine⟨.pointer (some ⟨b,off+i.toNat*sz,none⟩),?_,.ptr k _ b hb⟩;simp[execOp,ho,hu,e2,Instr.indexAt,Instr.sureAddr,asIntOf,run_underlying tk.und,tz,sizeOf,typeInfo,tke.info,tke.size,cK,Addr.add_lit]
theorem DJ [Flo]{t e n:Nat}{x y:Operand}{kd:IntKind}{i:Int}{ti te:TI}{ds:List D}{q:D}(ho:o.op= .index t x y)(ht:aV X.P t=some ti)(ha:ti.arr=some (n,e))(iD:aV X.P e=some te)(cK:te.size=1)(qr:te.agg=false)
 (hx:ev s x= .d (.agg ds)) (hy:ev s y= .d (.v (.int kd i))) (hi:0<=i) (hlt:i.toNat < n) (hq:ds[i.toNat]? =some q):bH X ops s o {pv:= .d q}:=
 aM hd fun s' he _ ac w c hc=>by
  have e1:=bI hc x;rw[he x (by simp[ho,Op.operands]),hx]at e1;have e2:=di hc ((he y (by simp[ho,Op.operands])).trans hy);generalize hu:ac.eval x=u at e1;obtain⟨ii,d,z,tk⟩:=iW ht;obtain⟨ie,de,ze,tke⟩:=iW iD;have lg:d= .array n e:=a3h
  subst lg;have e1:=ck e1;cases e1 with
  |agg _ vs hl h1 aU=>
   have tz:0<=i/\i < (n:Int):=⟨hi,by omega⟩;have pY:i.toNat < vs.length:=by rw[<-hl];exact(Xm.1 hq).1
   have Ly:(isAgg e).run X.P w= .ok false w:=by
    unfold isAgg;rw[Sem.run_bind,run_underlying tke.und w];have:=tke.agg;rw[qr]at this;cases de<;>simp[Qi]at this ⊢
   refine⟨vs[i.toNat],?_,.d _ _ (aU i.toNat q _ hq (Xj pY))⟩;simp[execOp,ho,hu,e2,Instr.index,asIntOf,run_underlying tk.und,tz,sizeOf,typeInfo,tke.info,tke.size,cK,part,Ly,Xj pY]
theorem DK [Flo]{t n e:Nat}{parts:Array (Nat × Operand)}{ti te:TI}{pd:List (Nat × List PV)}{out:List PV}(ho:o.op= .build t parts)(ht:aV X.P t=some ti)(ha:ti.arr=some (n,e))(iD:aV X.P e=some te)
 (hp:pd.length=parts.size) (hq:∀(j:Nat) (i:Nat) (x:Operand),parts[j]? =some (i,x)->pd[j]? =some (i,cF (ev s x))/\wM (ev s x)=true) (hf:qC ((X4 n).map fun i=>(i*te.size,te.size)) (ti.zero.map fun x=> .d (.v x)) pd=some out):
 bH X ops s o {pv:=tO out}:=by
 obtain⟨ii,d,z,tk⟩:=iW ht;obtain⟨ie,de,ze,tke⟩:=iW iD;have lg:d= .array n e:=a3h
 subst lg;refine Ax hd ho ht (place:=fun i=>some (i*te.size,te.size)) (fun i p h=>?_) (fun ps=>?_) hp hq hf
 ·rw[Xr,XB]at h;obtain⟨m,hm,rfl⟩:=h;have:=(Xm.1 hm).2;simp at this;rw[this]
 ·unfold Program.built;have:z.cells=ti.zero.toArray:=by rw[<-tk.zcells]
  simp only[tk.info,tk.und,tk.zero,tke.info,tke.size,this]
omit hd in
theorem BY [Flo]{P:Program}{t:Nat}{ms:Array (String × TypeId)}(h:P.underlying t=some (.interface ms))(d:D)(M:Nat->Prop)(w:World)(v:Value)(hv:RepD M w d v)(hn:d= .nei\/d= .v .nilIface):
 (Op.equal t v .nilIface).run P w= .ok (match d with| .nei=>false|_=>true) w:=by
 unfold Op.equal;rcases hn with rfl|rfl
 ·cases hv;show (Op.equalIn (9999+1) t _ .nilIface).run P w=_;rw[Op.equalIn,Sem.run_bind,run_underlying h];rfl
 ·cases hv;show (Op.equalIn (9999+1) t .nilIface .nilIface).run P w=_;rw[Op.equalIn,Sem.run_bind,run_underlying h];rfl
theorem sb [Flo]{op:BinOp}{t t':Nat}{x:Operand}{d:D}{ti:TI}{r:Bool}(ho:o.op= .binOp op t x (.const .nilIface) t')(ht:aV X.P t=some ti)(hk:ti.kind=5)(hx:ev s x= .d d)(hn:d= .nei\/d= .v .nilIface)
 (hr:(op= .eql/\r=(match d with| .nei=>false|_=>true))\/(op= .neq/\r=!(match d with| .nei=>false|_=>true))):bH X ops s o {pv:= .d (.v (.bool r))}:=
 aM hd fun s' he _ ac w c hc=>by
  have e1:=bI hc x;rw[he x (by simp[ho,Op.operands]),hx]at e1;generalize hu:ac.eval x=u at e1;have e1:=ck e1;obtain⟨i,dd,z,tk⟩:=iW ht;have lg:∃ms,dd= .interface ms:=by
   have:=tk.kind;rw[hk]at this;cases dd<;>simp[qA]at this;exact⟨_,rfl⟩
  obtain⟨ms,rfl⟩:=lg;have hq:=BY tk.und d _ w u e1 hn;have hg:eqGuard op t x (.const .nilIface) u .nilIface=pure ():=by
   rcases hn with rfl|rfl
   ·cases e1;rcases hr with⟨rfl,-⟩|⟨rfl,-⟩<;>rfl
   ·cases e1;exact eqGuard_nil_constR _ _ _ _
  refine⟨.bool r,?_,.d _ _ (.v _)⟩;have hb:(binOp op t u .nilIface).run X.P w= .ok (.bool r) w:=by
   rcases hn with rfl|rfl
   ·exact a4u
   ·exact a4u
  have jq:ac.eval (.const .nilIface)= .nilIface:=rfl;simp[execOp,ho,hu,jq,hg,hb]
theorem DL [Flo]{op:BinOp}{t t':Nat}{x y:Operand}{k k':IntKind}{m n:Int}{r:Value}(ho:o.op= .binOp op t x y t')(js:op= .shl\/op= .shr)(hx:ev s x= .d (.v (.int k m)))(hy:ev s y= .d (.v (.int k' n)))(hr:BK op k m n=some r):
 bH X ops s o {pv:= .d (.v r)}:=
 aM hd fun s' he _ a w c hc=>by
  have h1:=di hc ((he x (by simp[ho,Op.operands])).trans hx);have h2:=di hc ((he y (by simp[ho,Op.operands])).trans hy);refine⟨r,?_,.d _ _ (.v _)⟩;rcases js with rfl|rfl
  ·exact a3I
  ·exact a3I
end
inductive SR where
 |no
 |res (p:PV) (eff:List (Nat × Chunk)) (touch:List Nat) (side:Prop)
 |call (g:Nat) (ps:List PV)
def sd (c a b:PV):SR:=
 match c with
 | .d (.v (.bool t))=>
  match a,b with
  | .d (.v (.bool p)),.d (.v (.bool q))=> .res (.d (.v (.bool (bif t then p else q)))) [] [] True
  |_,_=> .res (if t then a else b) [] [] True
 |_=> .no
def V3 (op:UnOp)(x:PV):SR:=
 match op,x with
 | .not,.d (.v (.bool b))=> .res (.d (.v (.bool (!b)))) [] [] True
 | .neg,.d (.v (.int k n))=> .res (.d (.v (.int k (k.wrap (0 - n))))) [] [] True
 |_,_=> .no
def Mu (x:PV):SR:=
 match x with
 | .ptr k off=> .res (.ptr k off) [] [] True
 | .rp k g sz i j=> .res (.rp k g sz i j) [] [] True
 | .d (.ept cs)=> .res (.d (.ept cs)) [] [] True
 |_=> .no
def Mv (ti:Option TI)(q:Option Nat)(op:BinOp)(x y:PV):SR:=
 match x,y with
 | .d (.v (.int k m)),.d (.v (.int k' n))=>
  if k=k' then
   match op with
   | .quo=> .res (.d (.v (.int k (k.wrap (m.tdiv n))))) [] [] (n≠0)
   | .rem=> .res (.d (.v (.int k (m.tmod n)))) [] [] (n≠0)
   |_=>match BK op k m n with
    |some r=> .res (.d (.v r)) [] [] True
    |none=> .no
  else
   match op with
   | .shl=>match BK .shl k m n with|some r=> .res (.d (.v r)) [] [] True|none=> .no
   | .shr=>match BK .shr k m n with|some r=> .res (.d (.v r)) [] [] True|none=> .no
   |_=> .no
 | .d (.v (.string m)),.d (.v (.string n))=>
  match op with
  | .add=> .res (.d (.v (.string (m++n)))) [] [] (m.size+n.size<=9223372036854775807)
  | .eql=> .res (.d (.v (.bool (decide (m=n))))) [] [] True
  | .neq=> .res (.d (.v (.bool !decide (m=n)))) [] [] True
  |_=> .no
 | .d (.v (.bool m)),.d (.v (.bool n))=>
  match ti,op with
  |some ti,.eql=> .res (.d (.v (.bool (m==n)))) [] [] (ti.kind=1)
  |some ti,.neq=> .res (.d (.v (.bool (m !=n)))) [] [] (ti.kind=1)
  |_,_=> .no
 | .d (.v (.pointer none)),.d (.v (.pointer none))=>
  match ti,op with
  |some ti,.eql=> .res (.d (.v (.bool true))) [] [] (ti.kind=3)
  |some ti,.neq=> .res (.d (.v (.bool false))) [] [] (ti.kind=3)
  |_,_=> .no
 | .ptr _ _,.d (.v (.pointer none))=>
  match ti,op with
  |some ti,.eql=> .res (.d (.v (.bool false))) [] [] (ti.kind=3)
  |some ti,.neq=> .res (.d (.v (.bool true))) [] [] (ti.kind=3)
  |_,_=> .no
 | .rp _ _ _ _ _,.d (.v (.pointer none))=>
  match ti,op with
  |some ti,.eql=> .res (.d (.v (.bool false))) [] [] (ti.kind=3)
  |some ti,.neq=> .res (.d (.v (.bool true))) [] [] (ti.kind=3)
  |_,_=> .no
 | .d (.ept _),.d (.v (.pointer none))=>
  match ti,op with
  |some ti,.eql=> .res (.d (.v (.bool false))) [] [] (ti.kind=3)
  |some ti,.neq=> .res (.d (.v (.bool true))) [] [] (ti.kind=3)
  |_,_=> .no
 | .d (.sl _ (_::_)),.d (.v (.slice none _ _))=>
  match ti,op with
  |some ti,.eql=> .res (.d (.v (.bool false))) [] [] (ti.elem.isSome=true)
  |some ti,.neq=> .res (.d (.v (.bool true))) [] [] (ti.elem.isSome=true)
  |_,_=> .no
 | .d (.v (.slice ao _ _)),.d (.v (.slice none _ _))=>
  match ti,op with
  |some ti,.eql=> .res (.d (.v (.bool ao.isNone))) [] [] (ti.elem.isSome=true)
  |some ti,.neq=> .res (.d (.v (.bool !ao.isNone))) [] [] (ti.elem.isSome=true)
  |_,_=> .no
 | .d (.agg ds),.d (.agg es)=>
  match q,qB ds,qB es with
  |some n,some xs,some ys=>
   match op with
   | .eql=> .res (.d (.v (.bool (xs==ys)))) [] [] (xs.length=n/\ys.length=n)
   | .neq=> .res (.d (.v (.bool (xs !=ys)))) [] [] (xs.length=n/\ys.length=n)
   |_=> .no
  |_,_,_=> .no
 |_,_=> .no
def Mw (ti:Option TI)(op:BinOp)(x:PV):SR:=
 match ti,op,x with
 |some ti,.eql,.d .nei=> .res (.d (.v (.bool false))) [] [] (ti.kind=5)
 |some ti,.neq,.d .nei=> .res (.d (.v (.bool true))) [] [] (ti.kind=5)
 |some ti,.eql,.d (.v .nilIface)=> .res (.d (.v (.bool true))) [] [] (ti.kind=5)
 |some ti,.neq,.d (.v .nilIface)=> .res (.d (.v (.bool false))) [] [] (ti.kind=5)
 |_,_,_=> .no
def wW (ti:Option TI)(f:Nat)(x:PV):SR:=
 match ti with
 |some ti=>
  match ti.fields[f]? with
  |some (off,sz)=>
   match x with
   | .d (.ept ds)=> .res (.d (.ept (ds.drop off))) [] [] (sz≠0)
   | .ptr k o'=> .res (.ptr k (o'+off)) [] [] (sz≠0)
   | .rp k g sz' i j=> .res (.rp k g sz' i (j+off)) [] [] (sz≠0)
   |_=> .no
  |none=> .no
 |none=> .no
def DM (ti:Option TI)(h:Nat->Chunk)(x:PV):SR:=
 match ti with
 |some ti=>
  match x with
  | .d (.ept ds)=>
   if ti.agg then .res (.d (.agg (ds.take ti.size))) [] [] (ti.size<=ds.length)
   else match ds with
    |d::_=> .res (.d d) [] [] (ti.size=1)
    |[]=> .no
  | .ptr k off=>
   match h k with
   | .box _ cells=>
    if ti.agg then .res (tO ((cells.drop off).take ti.size)) [] [k] (off+ti.size<=cells.length)
    else match cells.drop off with
     |p::_=> .res p [] [k] (ti.size=1)
     |[]=> .no
   |_=> .no
  | .rp k g sz i j=>
   match h k with
   | .row _ sz' g' rows=>
    match rows[i]? with
    |some row=>
     if ti.agg then .res (tO ((row.drop j).take ti.size)) [] [k] (g=g'/\sz=sz'/\j+ti.size<=sz)
     else match row.drop j with
      |p::_=> .res p [] [k] (g=g'/\sz=sz'/\ti.size=1/\j+1<=sz)
      |[]=> .no
    |none=> .no
   |_=> .no
  |_=> .no
 |none=> .no
def wX (T:Nat->Option TI)(ti:Option TI)(h:Nat->Chunk)(x y:PV):SR:=
 match ti with
 |some ti=>
  match ti.elem with
  |some e=>
   match T e with
   |some te=>
    match y with
    | .d (.v (.int _ n))=>
     match x with
     | .d (.sl sz rows)=>match rows[n.toNat]? with|some row=> .res (.d (.ept row)) [] [] (te.size=sz/\0<=n)|none=> .no
     | .own k g=>
      match h k with
      | .row e' sz g' rows=> .res (.rp k g sz n.toNat 0) [] [k] (e'=e/\g'=g/\te.size=sz/\0<=n/\n.toNat < rows.length)
      |_=> .no
     | .osl k g sz st m=> .res (.rp k g sz (st+n.toNat) 0) [] [] (te.size=sz/\0<=n/\n.toNat < m)
     |_=> .no
    |_=> .no
   |none=> .no
  |none=>
   match ti.arr,x,y with
   |some (m,e),.ptr k off,.d (.v (.int _ n))=>
    match T e with
    |some te=> .res (.ptr k (off+n.toNat*te.size)) [] [] (0<=n/\n.toNat < m)
    |none=> .no
   |_,_,_=> .no
 |none=> .no
def wY (T:Nat->Option TI)(ti:Option TI)(x y:PV):SR:=
 match ti with
 |some ti=>
  match x,y with
  | .d (.v (.string a)),.d (.v (.int _ n))=> .res (.d (.v (.int .u8 (BX a n.toNat)))) [] [] (ti.kind=2/\0<=n/\n.toNat < a.size)
  | .d (.agg ds),.d (.v (.int _ n))=>
   match ti.arr with
   |some (m,e)=>
    match T e with
    |some te=>match ds[n.toNat]? with|some q=> .res (.d q) [] [] (te.size=1/\te.agg=false/\0<=n/\n.toNat < m)|none=> .no
    |none=> .no
   |none=> .no
  |_,_=> .no
 |none=> .no
def AH (x:PV)(i:Nat):SR:=
 match x with
 | .d (.tup ds)=>match ds[i]? with|some d=> .res (.d d) [] [] True|none=> .no
 | .tup ds=>match ds[i]? with|some d=> .res d [] [] True|none=> .no
 |_=> .no
def tX (e:bU):List (Nat × Operand)->Option (List (Nat × List PV))
 |[]=>some []
 |(i,x)::l=>
  if wM (dA e x)then
   match tX e l with
   |some pd=>some ((i,cF (dA e x))::pd)
   |none=>none
  else none
def wZ (T:Nat->Option TI)(ti:Option TI)(e:bU)(parts:List (Nat × Operand)):SR:=
 match ti with
 |some ti=>
  match ti.fields with
  |[]=>
   match ti.arr with
   |some (n,el)=>
    match T el,tX e parts with
    |some te,some pd=>
     match qC ((X4 n).map fun i=>(i*te.size,te.size)) (ti.zero.map fun x=> .d (.v x)) pd with
     |some out=> .res (tO out) [] [] True
     |none=> .no
    |_,_=> .no
   |none=> .no
  |_::_=>
   match tX e parts with
   |some pd=>
    match qC ti.fields (ti.zero.map fun x=> .d (.v x)) pd with
    |some out=> .res (tO out) [] [] True
    |none=> .no
   |none=> .no
 |none=> .no
def DN (e:bU):Nat->List (Nat × Operand)->Option (List (List PV))
 |_,[]=>some []
 |n,(i,x)::l=>
  if wM (dA e x)&&(i==n)then
   match DN e (n+1) l with
   |some rows=>some (cF (dA e x)::rows)
   |none=>none
  else none
def VF:List (List PV)->Option (List (List D))
 |[]=>some []
 |r::l=>match wN r,VF l with|some d,some ds=>some (d::ds)|_,_=>none
def w7 (sz:Nat):List (List PV)->Prop
 |[]=>True
 |r::l=>r.length=sz/\w7 sz l
def Mx (T:Nat->Option TI)(ti:Option TI)(nk:Nat)(e:bU)(n:Nat)(parts:List (Nat × Operand)):SR:=
 match ti with
 |some ti=>
  match ti.elem with
  |some el=>
   match T el with
   |some te=>
    match n,parts with
    |0,[]=> .res (.own nk 0) [(nk,.row el te.size 0 [])] [nk] True
    |n+1,parts=>
     match DN e 0 parts with
     |some rows=>
      match (if te.kind=2 then none else VF rows)with
      |some ds=> .res (.d (.sl te.size ds)) [] [] (0 < te.size/\(n+1)*te.size<=16777216/\rows.length=n+1/\w7 te.size rows)
      |none=> .res (.own nk 0) [(nk,.row el te.size 0 rows)] [nk] (0 < te.size/\(n+1)*te.size<=16777216/\rows.length=n+1/\w7 te.size rows)
     |none=> .no
    |_,_=> .no
   |none=> .no
  |none=> .no
 |none=> .no
def DO (T:Nat->Option TI)(ti:Option TI)(nk:Nat)(x y:PV):SR:=
 match ti with
 |some ti=>
  match ti.elem with
  |some el=>
   match T el with
   |some te=>
    match te.zero,x,y with
    |[zv],.d (.v (.int _ n)),.d (.v (.int _ m))=> .res (.own nk 0) [(nk,.row el 1 0 (XS n.toNat [.d (.v zv)]))] [nk] (n=m/\0 < n/\(te.bytes:Int)*n<=281474976710656/\n<=9223372036854775807)
    |_,_,_=> .no
   |none=> .no
  |none=> .no
 |none=> .no
def DP (T:Nat->Option TI)(ts td:Option TI)(x:PV):SR:=
 match ts,td with
 |some ts,some td=>
  match td.int,x with
  |some k,.d (.v (.int _ n))=> .res (.d (.v (.int k (k.wrap n)))) [] [] True
  |none,.d (.sl 1 rows)=>
   match ts.elem with
   |some e=>
    match T e with
    |some te=>match pk rows with|some xs=> .res (.d (.v (.string (strOfNums xs)))) [] [] (te.int=some .u8/\td.kind=2)|none=> .no
    |none=> .no
   |none=> .no
  |_,_=> .no
 |_,_=> .no
def My (ti:Option TI)(h:Nat->Chunk)(x:PV):SR:=
 match ti with
 |some ti=>
  match ti.elem with
  |some _=>
   match x with
   | .d (.sl _ rows)=> .res (.d (.v (.int .i64 rows.length))) [] [] True
   | .d (.v (.slice none 0 0))=> .res (.d (.v (.int .i64 (0:Nat)))) [] [] True
   | .own k g=>match h k with| .row _ _ g' rows=> .res (.d (.v (.int .i64 rows.length))) [] [k] (g=g')|_=> .no
   | .osl _ _ _ _ n=> .res (.d (.v (.int .i64 n))) [] [] True
   |_=> .no
  |none=>match x with| .d (.v (.string a))=> .res (.d (.v (.int .i64 a.size))) [] [] (ti.kind=2)|_=> .no
 |none=> .no
def Qs (h:Nat->Chunk)(sz:Nat)(y:PV):Option (List (List PV) × List Nat):=
 match y with
 | .d (.sl sz' news)=>if sz'=sz then some (ab news,[])else none
 | .d (.v (.slice _ 0 _))=>some ([],[])
 | .own k g=>match h k with| .row _ sz' g' rows=>if sz'=sz/\g'=g then some (rows,[k])else none|_=>none
 | .osl k g sz' st n=>match h k with| .row _ sz'' g' rows=>if sz'=sz/\sz''=sz/\g'=g then some ((rows.drop st).take n,[k])else none|_=>none
 |_=>none
def Mz (T:Nat->Option TI)(ti:Option TI)(nk:Nat)(h:Nat->Chunk)(x y:PV):SR:=
 match ti with
 |some ti=>
  match ti.elem with
  |some el=>
   match T el with
   |some te=>
    if te.size=0\/te.bytes=0 then .no else
    match Qs h te.size y with
    |some (news,ty)=>
     match x with
     | .own k g=>
      match h k with
      | .row e' sz g' rows=> .res (.own k (g+1)) [(k,.row e' sz (g+1) (rows++news))] (k::ty) (e'=el/\g'=g/\te.size=sz/\(rows.length+news.length)*te.bytes<=140737488355328)
      |_=> .no
     | .d (.v (.slice none 0 0))=> .res (.own nk 0) [(nk,.row el te.size 0 news)] (nk::ty) (news.length*te.bytes<=140737488355328)
     | .osl k g sz st n=>
      match h k with
      | .row e' sz' g' rows=> .res (.osl k g sz 0 (n+news.length)) [(k,.row e' sz' g' (aC rows n news))] (k::ty) (st=0/\e'=el/\g'=g/\sz'=sz/\te.size=sz/\rows≠[]/\n+news.length<=rows.length)
      |_=> .no
     |_=> .no
    |none=> .no
   |none=> .no
  |none=> .no
 |none=> .no
def w8 (ti:Option TI)(h:Nat->Chunk)(dst:Option Nat)(x y:PV):SR:=
 match ti,dst with
 |some ti,none=>
  match x with
  | .ptr k off=>
   match h k with
   | .box T cells=>if wM y then .res .any [(k,.box T (aC cells off (cF y)))] [k] ((cF y).length=ti.size/\off+ti.size<=cells.length)else .no
   |_=> .no
  | .rp k g sz i j=>
   match h k with
   | .row E sz' g' rows=>
    match rows[i]? with
    |some row=>if wM y then .res .any [(k,.row E sz' g' (rows.set i (aC row j (cF y))))] [k] (g=g'/\sz=sz'/\(cF y).length=ti.size/\j+ti.size<=sz)else .no
    |none=> .no
   |_=> .no
  |_=> .no
 |_,_=> .no
def w9 (T:Nat->Option TI)(ti:Option TI)(h:Nat->Chunk)(x:PV)(lo hi mx:Option PV):SR:=
 match ti with
 |some ti=>
  match ti.elem with
  |some e=>
   match T e with
   |some te=>
    match mx with
    |none=>
     match x with
     | .d (.sl sz rows)=>
      match H6 lo,H7 rows.length hi with
      |some l,some r=> .res (.d (.sl sz ((rows.take r).drop l))) [] [] (te.size=sz/\l<=r/\r<=rows.length)
      |_,_=> .no
     | .own k g=>
      match h k with
      | .row e' sz g' []=>
       match H6 lo,H7 0 hi with
       |some l,some r=> .res .any [] [k] (e'=e/\g'=g/\te.size=sz/\l=0/\r=0)
       |_,_=> .no
      | .row e' sz g' rows=>
       match H6 lo,H7 rows.length hi with
       |some l,some r=> .res (.osl k g sz l (r - l)) [] [k] (e'=e/\g'=g/\te.size=sz/\rows≠[]/\l<=r/\r<=rows.length)
       |_,_=> .no
      |_=> .no
     | .osl k g sz st n=>
      match h k with
      | .row e' sz' g' rows=>
       match H6 lo,H7 n hi with
       |some l,some r=> .res (.osl k g sz (st+l) (r - l)) [] [k] (e'=e/\g'=g/\sz'=sz/\te.size=sz/\rows≠[]/\l<=r/\st+r<=rows.length)
       |_,_=> .no
      |_=> .no
     |_=> .no
    |some m=>
     match x,lo,hi,m with
     | .own k g,some (.d (.v (.int _ n1))),some (.d (.v (.int _ n2))),.d (.v (.int _ n3))=>
      match h k with
      | .row e' sz g' rows=> .res .any [] [k] (e'=e/\g'=g/\te.size=sz/\rows≠[]/\0<=n1/\n1<=n2/\n2<=n3/\n3<=(rows.length:Int))
      |_=> .no
     |_,_,_,_=> .no
   |none=> .no
  |none=>
   match x,mx with
   | .d (.v (.string a)),none=>
    match H6 lo,H7 a.size hi with
    |some l,some r=> .res (.d (.v (.string (a.extract l r)))) [] [] (ti.kind=2/\l<=r/\r<=a.size)
    |_,_=> .no
   |_,_=> .no
 |none=> .no
def xa (T:Nat->Option TI)(ti:Option TI)(h:Nat->Chunk)(x:PV):SR:=
 match ti with
 |some ti=>
  match ti.elem with
  |some e=>
   match T e with
   |some te=>
    match x with
    | .osl k g sz st n=>
     match h k with
     | .row e' sz' g' rows=> .res (.d (.v (.tuple #[]))) [(k,.row e' sz' g' (aC rows st (XS n (te.zero.map fun x=> .d (.v x)))))] [k] (e'=e/\g'=g/\sz'=sz/\te.size=sz/\rows≠[]/\st+n<=rows.length)
     |_=> .no
    |_=> .no
   |none=> .no
  |none=> .no
 |none=> .no
def pm (ti:Option TI)(nk:Nat):SR:=
 match ti with
 |some ti=>
  match ti.mp with
  |some (n,sB)=> .res (.mref nk) [(nk,.mp n sB [])] [nk] True
  |none=> .no
 |none=> .no
def sf (ti:Option TI)(h:Nat->Chunk)(m x:PV)(ok:Bool):SR:=
 match ti with
 |some ti=>
  match ti.mp with
  |some (n,sB)=>
   match m with
   | .mref k=>
    match h k with
    | .mp n' sB' ents=>
     match Gn sB x with
     |some xs=> .res (if ok then .d (.tup [.v (.int .i64 ((lB ents xs).getD 0)),.v (.bool (lB ents xs).isSome)])else .d (.v (.int .i64 ((lB ents xs).getD 0)))) [] [k] (n'=n/\sB'=sB/\xs.length=n)
     |none=> .no
    |_=> .no
   |_=> .no
  |none=> .no
 |none=> .no
def tY (ti:Option TI)(h:Nat->Chunk)(dst:Option Nat)(m x y:PV):SR:=
 match ti,dst with
 |some ti,none=>
  match ti.mp with
  |some (n,sB)=>
   match m with
   | .mref k=>
    match h k with
    | .mp n' sB' ents=>
     match Gn sB x,y with
     |some xs,.d (.v (.int .i64 v))=> .res .any [(k,.mp n' sB' (nd ents xs v))] [k] (n'=n/\sB'=sB/\xs.length=n)
     |_,_=> .no
    |_=> .no
   |_=> .no
  |none=> .no
 |_,_=> .no
def xb (ti:Option TI)(h:Nat->Chunk)(nk:Nat)(m:PV):SR:=
 match ti with
 |some ti=>
  match ti.mp with
  |some (n,sB)=>
   match m with
   | .mref k=>
    match h k with
    | .mp n' sB' ents=> .res (.ptr nk 0) [(nk,.it n' sB' ents []),(k,.gone)] [k,nk] (n'=n/\sB'=sB)
    |_=> .no
   |_=> .no
  |none=> .no
 |none=> .no
def xc (h:Nat->Chunk)(x:PV):SR:=
 match x with
 | .ptr k 0=>
  match h k with
  | .it _ _ ents seen=>
   match seen.getLast? with
   |some i=>
    match ents[i]? with
    |some kv=> .res (.tup [.any,.d (.v (.int .i64 kv.2))]) [] [k] True
    |none=> .no
   |none=> .no
  |_=> .no
 |_=> .no
def DQ (f:PV)(args:List PV):SR:=
 match f with
 | .clo g caps=> .call g (args++caps)
 | .d (.clo g cd)=> .call g (args++cd.map .d)
 |_=> .no
def PT (T:Nat->Option TI)(Q:Nat->Option Nat)(e:bU)(hl:List Chunk)(o:Oper):SR:=
 match o.op with
 | .move x=> .res (dA e x) [] [] True
 | .assign x=> .res (dA e x) [] [] True
 | .pick c a b=>sd (dA e c) (dA e a) (dA e b)
 | .unOp op _ x=>V3 op (dA e x)
 | .nilCheck x=>Mu (dA e x)
 | .binOp op t x (.const .nilIface) _=>Mw (T t) op (dA e x)
 | .binOp op t x y _=>Mv (T t) (Q t) op (dA e x) (dA e y)
 | .fieldAddr t x f=>wW (T t) f (dA e x)
 | .load t x=>DM (T t) (az hl) (dA e x)
 | .indexAddr t x y=>wX T (T t) (az hl) (dA e x) (dA e y)
 | .index t x y=>wY T (T t) (dA e x) (dA e y)
 | .extract x i=>AH (dA e x) i
 | .alloc t=>match T t with|some ti=> .res (.ptr hl.length 0) [(hl.length,.box t (ti.zero.map fun x=> .d (.v x)))] [hl.length] True|none=> .no
 | .box t x=>if wM (dA e x)then .res (.ptr hl.length 0) [(hl.length,.box t (cF (dA e x)))] [hl.length] True else .no
 | .store t x y=>w8 (T t) (az hl) o.dst (dA e x) (dA e y)
 | .build t ⟨parts⟩=>wZ T (T t) e parts
 | .buildSlice t n ⟨parts⟩=>Mx T (T t) hl.length e n parts
 | .makeFunc (.func g) ⟨[]⟩ ⟨caps⟩=> .res (.clo g (caps.map (dA e))) [] [] True
 | .convert src dst x=>DP T (T src) (T dst) (dA e x)
 | .call ⟨.builtin .len,⟨[x]⟩,⟨[t]⟩⟩=>My (T t) (az hl) (dA e x)
 | .slice t x lo hi mx=>w9 T (T t) (az hl) (dA e x) (lo.map (dA e)) (hi.map (dA e)) (mx.map (dA e))
 | .call ⟨.builtin .clear,⟨[x]⟩,⟨[t]⟩⟩=>xa T (T t) (az hl) (dA e x)
 | .call ⟨.builtin .append,⟨[x,y]⟩,⟨[t,t']⟩⟩=>if t=t' then Mz T (T t) hl.length (az hl) (dA e x) (dA e y)else .no
 | .call ⟨.builtin .min,⟨[x,y]⟩,_⟩=>match dA e x,dA e y with| .d (.v (.int k m)),.d (.v (.int k' n))=>if k=k' then .res (.d (.v (.int k (if n < m then n else m)))) [] [] True else .no|_,_=> .no
 | .call ⟨.builtin .max,⟨[x,y]⟩,_⟩=>match dA e x,dA e y with| .d (.v (.int k m)),.d (.v (.int k' n))=>if k=k' then .res (.d (.v (.int k (if m < n then n else m)))) [] [] True else .no|_,_=> .no
 | .call ⟨.value f,⟨args⟩,_⟩=>DQ (dA e f) (args.map (dA e))
 | .makeSlice t x y=>DO T (T t) hl.length (dA e x) (dA e y)
 | .makeMap t none=>pm (T t) hl.length
 | .lookup t m x ok=>sf (T t) (az hl) (dA e m) (dA e x) ok
 | .range t m=>xb (T t) (az hl) hl.length (dA e m)
 | .entry x=>xc (az hl) (dA e x)
 | .mapUpdate t m x y=>tY (T t) (az hl) o.dst (dA e m) (dA e x) (dA e y)
 | .insert t m x y=>tY (T t) (az hl) o.dst (dA e m) (dA e x) (dA e y)
 |_=> .no
end Go.Proofs.YtmicljipaiohkaaGreat
