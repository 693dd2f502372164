/- Texts of this work, joined. -/
import Derived.Test.YtmicljipaiohkaaGreatZHSitePlays0
import Derived.WalkKit
import Derived.WalkSmall
import Derived.WideKeyRuns
import Derived.Carry
import Derived.Laws.MakeOwn
import Derived.Maps.RangeRun
import Derived.Laws.IdiomRangeMap
import Derived.WalkMore
import Derived.Laws.BytesArg
set_option linter.unusedSimpArgs false
set_option linter.unusedVariables false
set_option maxRecDepth 100000
set_option maxHeartbeats 16000000
namespace Go.Proofs.YtmicljipaiohkaaGreat
open Go Go.RowKit Go.Proofs.Tryz
open _root_.List renaming getElem?_eq_getElem → Xk, mem_of_getElem? → Xl, map_cons → Xm, getElem?_eq_some_iff → Xn, length_take → Xp, take_length → Xt, map_nil → Xu, set_cons_zero → Xv, set_cons_succ → Xx, getElem?_map → Xz, length_cons → XA, length_map → XC, all_eq_true → XE, length_drop → XI, getD_eq_getElem?_getD → XJ, getElem?_append_right → XK, take_of_length_le → XN, mem_map → XQ, getElem?_take_of_lt → XS, getElem?_eq_none → XT, replicate → XV, length_append → XY, length_nil → XZ, mem_append → X2, append_assoc → X3, getElem?_append_left → X4, range → X5, mem_cons → X7, cons_append → X8, eq_nil_of_length_eq_zero → X9, nil_append → Ya, getElem_of_mem → Yb, mem_singleton → Yc, mem_of_mem_drop → Yd, mem_of_mem_take → Yg, ext_getElem? → Yj, getElem?_drop → Yk, take_append_of_le_length → Yl, getElem_mem → Ym, append_nil → Yv, getElem?_cons_succ → Yw, size_toArray → YH, foldl_cons → YO, drop_eq_getElem_cons → YQ, mem_range → YR, flatten_cons → YU, length_set → YV, filter_append → YW, filter_eq_self → Y0, toList_toArray → Y1, mem_or_eq_of_mem_set → Y4, mem_map_of_mem → Y8, length_filter_le → Za, mem_cons_of_mem → Zc, length_pos_iff → Zd, filter_filter → Zi, getElem?_take → Zj, foldl_append → Zn, filter_eq_nil_iff → Zo, map_congr_left → Zr, mem_filter → Zt, filter_cons → Zu, eq_of_mem_replicate → Zv, take_succ_cons → ZC, mem_append_left → ZP, getElem?_range → ZU, mem_flatten → ZW, getElem?_replicate → ZX, filter_congr → Z2, take_zero → Z4, flatten_append → B', mem_cons_self → F', drop_of_length_le → L', mem_toArray → _c, drop_append → _d
open _root_.Bool renaming and_eq_true → Xy, eq_iff_iff → Yi, and_self → Yp, true_and → Yr, and_true → YA, false_eq_true → YB, or_eq_false_iff → Zm, not_eq_true' → Zz
open _root_.Nat renaming le_refl → XB, zero_le → XD, zero_add → XG, lt_or_ge → XP, add_zero → XW, sub_zero → Yo, mul_le_mul_right → Ys, lt_of_lt_of_le → Yx, le_trans → Yy, sub_self → YG, succ_mul → YY, mul_comm → Zp, div_lt_of_lt_mul → Zw, add_assoc → ZF, eq_zero_or_pos → ZJ, div_add_mod → ZN, add_mul → ZQ, mul_one → X', mod_lt → Y', not_lt → _g
open _root_.Option renaming map_eq_some_iff → XO, some → XX, map_some → Ye, getD_some → YI, bind_some → Y6, map_none → Zg
open _root_.Array renaming getElem?_toList → X6, getD_eq_getD_getElem? → Yu, getElem?_eq_some_iff → Yz, getElem?_eq_none → YM, getElem?_eq_getElem → YP, replicate → Y5, getElem?_modify → Y9, mem_of_getElem? → Z1, toList_map → Z9, getElem?_setIfInBounds_ne → S', toArray_toList → V', range → _b, ext' → _h
open Go.World renaming cell? → YS, cell?_of_block → Zl, setRow → ZE, alloc_eq → J'
open _root_.Int renaming le_refl → ZG, toNat_of_nonneg → ZV
abbrev dw (w w':World):Prop:=Below w.heap.size w w'
structure Bel (B:Nat)(a w:World):Prop where
 bel:Below B a w
 le:B≤w.heap.size
theorem Bel.refl (w:World):Bel w.heap.size w w:=⟨Below.refl _ _,XB _⟩
theorem Bel.alloc {B:Nat}{a w:World}(h:Bel B a w)(o:Obj):Bel B a (w.alloc o):=⟨h.bel.alloc h.le o,by have:=h.le;simp;omega⟩
theorem Bel.setCell {B:Nat}{a w:World}(h:Bel B a w){p:Addr}(hp:B≤p.block)(u:Value):Bel B a (w.setCell p u):=
 ⟨h.bel.setCell hp u,by have:=h.le;simpa[World.setCell]using this⟩
theorem Bel.setCell0 {B:Nat}{a w:World}(h:Bel B a w){b o:Nat}(hp:B≤b)(u:Value):Bel B a (w.setCell ⟨b,o,none⟩ u):=h.setCell (p:=⟨b,o,none⟩) hp u
theorem Bel.drewN {B:Nat}{a w:World}(h:Bel B a w)(n:Nat):Bel B a (w.drewN n):=⟨below_drewN h.bel n,h.le⟩
theorem Bel.drew {B:Nat}{a w:World}(h:Bel B a w):Bel B a w.drew:=⟨h.bel.drew,h.le⟩
theorem Bel.call {B:Nat}{a w w':World}(h:Bel B a w)(k:dw w w'):Bel B a w':=⟨h.bel.trans (k.mono h.le),Yy h.le k.size⟩
theorem Bel.ext {a w:World}(h:Bel a.heap.size a w):dw a w:=h.bel
theorem Bel.cell {B:Nat}{a w:World}(h:Bel B a w){b off:Nat}{v:Value}(hb:b < B)(hc:a.cell? ⟨b,off,none⟩=some v):w.cell? ⟨b,off,none⟩=some v:=
 (h.bel.cell (p:=⟨b,off,none⟩) hb).trans hc
theorem aJ {W w1:World}(hb:dw W w1):(∀b o,b < W.heap.size→w1.cell? ⟨b,o,none⟩=W.cell? ⟨b,o,none⟩)∧(∀b o,b < W.heap.size→w1.frozen? ⟨b,o,none⟩=W.frozen? ⟨b,o,none⟩):=
 ⟨fun b o h=>hb.cell (p:=⟨b,o,none⟩) h,fun b o h=>hb.frozen (p:=⟨b,o,none⟩) h⟩
theorem bq {W w1:World}(hb:dw W w1):W.heap.size≤w1.heap.size:=hb.size
theorem aa (w:World)(a:Addr)(v:Value):(w.setCell a v).heap.size=w.heap.size:=by simp[World.setCell]
theorem bV {X w1:World}(h:dw X w1){b o:Nat}{v:Value}(hc:X.cell? ⟨b,o,none⟩=some v):w1.cell? ⟨b,o,none⟩=some v:=
 (h.cell (p:=⟨b,o,none⟩) (World.block_lt_of_cell? X ⟨b,o,none⟩ hc)).trans hc
abbrev lU:=Nat→Prop
def lv (w:World)(b off:Nat)(cs:List Value):Prop:=∀i (h:i < cs.length),w.cell? ⟨b,off+i,none⟩=some cs[i]
structure Sl {α:Type}(A:lU)(w:World)(k:Nat)(R:List Value→α→Prop)(ao:Option Addr)(cap:Nat)(l:List α):Prop where
 cap_le:l.length≤cap
 cap_max:cap≤9223372036854775807
 elem:∀i (h:i < l.length),∃b off cs,ao=some ⟨b,off,none⟩∧A b∧cs.length=k∧R cs l[i]∧lv w b (off+i*k) cs
def RW {α:Type}(A:lU)(w:World)(k:Nat)(R:List Value→α→Prop)(v:Value)(l:List α):Prop:=
 ∃ao cap,v= .slice ao l.length cap∧Sl A w k R ao cap l
theorem dC {w:World}{b off:Nat}{v:Value}(h:w.cell? ⟨b,off,none⟩=some v):b < w.heap.size:=by
 rcases XP b w.heap.size with hb|hb
 ·exact hb
 ·simp[YS,YM hb]at h
theorem w9 {w:World}{b o:Nat}{cs:Array Value}{t:TypeId}{f:Nat × Nat}{v:Value}(h:w.heap[b]? =some (.cells cs t f))(hv:cs[o]? =some v):w.cell? ⟨b,o,none⟩=some v:=by
 simp[YS,h,hv]
theorem lM {w:World}{b o:Nat}{cs:Array Value}{t:TypeId}(h:w.heap[b]? =some (.cells cs t (0,0))):w.frozen? ⟨b,o,none⟩=false:=by
 simp[World.frozen?,h]
theorem d9 {w:World}{o:Obj}{b:Nat}{x:Obj}(h:w.heap[b]? =some x):(w.alloc o).heap[b]? =some x:=by
 have hlt:b < w.heap.size:=by
  rcases XP b w.heap.size with h'|h'
  ·exact h'
  ·simp[YM h']at h
 rw[Below.heap_alloc _ _ _ hlt,h]
theorem xR (w:World)(o:Obj):(w.alloc o).heap[w.heap.size]? =some o:=by
 show (w.heap.push o)[w.heap.size]? =_;simp
theorem kF {w:World}{n:Nat}(o:Obj)(h:w.heap.size=n):(w.alloc o).heap[n]? =some o:=by subst h;exact xR w o
theorem xa {w:World}{b o:Nat}{c:Array Value}{t:TypeId}{f:Nat × Nat}(h:w.heap[b]? =some (.cells c t f))(v:Value):(w.setCell ⟨b,o,none⟩ v).heap[b]? =some (.cells (c.setIfInBounds o v) t f):=by
 simp[World.setCell,Y9,h]
theorem lV {w:World}{b:Nat}{a:Addr}(v:Value)(h:a.block≠b):(w.setCell a v).heap[b]? =w.heap[b]? :=Below.heap_setCell _ _ _ _ (fun e=>h e.symm)
theorem xS {w w':World}(hx:dw w w'){b:Nat}{o:Obj}(hb:w.heap[b]? =some o):w'.heap[b]? =some o:=by
 have hlt:b < w.heap.size:=by
  rcases XP b w.heap.size with h|h
  ·exact h
  ·simp[YM h]at hb
 rw[hx.block b hlt,hb]
theorem aw (w:World)(o:Obj):dw w (w.alloc o):=((Bel.refl w).alloc o).bel
theorem aj {a b c:World}(h:dw a b)(k:dw b c):dw a c:=Below.trans h (Below.mono k h.size)
inductive D where
 |v (x:Value)
 |sl (sz:Nat) (rows:List (List D))
 |ept (cells:List D)
 |agg (cells:List D)
 |tup (vs:List D)
 |clo (g:Nat) (caps:List D)
 |nei
def D.one:D→Bool
 | .v x=>x.oneCell'
 | .agg _=>false
 | .tup _=>false
 |_=>true
inductive RepD (M:Nat→Prop) (w:World):D→Value→Prop
 |v (x:Value):RepD M w (.v x) x
 |nil (sz:Nat) (ao:Option Addr) (cap:Nat) (hm:cap≤9223372036854775807):RepD M w (.sl sz []) (.slice ao 0 cap)
 |sl (sz:Nat) (rows:List (List D)) (b off cap:Nat) (f:Nat→Nat→Value) (hM:¬M b) (hb:b < w.heap.size) (hc:rows.length≤cap) (hm:cap≤9223372036854775807)
  (hr:∀r∈rows,r.length=sz) (h1:∀r∈rows,∀d∈r,d.one=true)
  (dy:∀i j,i < rows.length→j < sz→w.cell? ⟨b,off+i*sz+j,none⟩=some (f i j))
  (bA:∀(i j:Nat) (row:List D) (d:D),rows[i]? =some row→row[j]? =some d→RepD M w d (f i j)):RepD M w (.sl sz rows) (.slice (some ⟨b,off,none⟩) rows.length cap)
 |ept (cells:List D) (b off:Nat) (f:Nat→Value) (hM:¬M b) (hb:b < w.heap.size) (h1:∀d∈cells,d.one=true)
  (dy:∀j,j < cells.length→w.cell? ⟨b,off+j,none⟩=some (f j))
  (bA:∀(j:Nat) (d:D),cells[j]? =some d→RepD M w d (f j)):RepD M w (.ept cells) (.pointer (some ⟨b,off,none⟩))
 |agg (cells:List D) (vs:List Value) (hl:cells.length=vs.length) (h1:∀d∈cells,d.one=true)
  (bA:∀(j:Nat) (d:D) (x:Value),cells[j]? =some d→vs[j]? =some x→RepD M w d x):RepD M w (.agg cells) (.agg vs.toArray)
 |tup (ds:List D) (vs:List Value) (hl:ds.length=vs.length)
  (bA:∀(j:Nat) (d:D) (x:Value),ds[j]? =some d→vs[j]? =some x→RepD M w d x):RepD M w (.tup ds) (.tuple vs.toArray)
 |clo (g:Nat) (caps:List D) (vs:List Value) (hl:caps.length=vs.length)
  (bA:∀(j:Nat) (d:D) (x:Value),caps[j]? =some d→vs[j]? =some x→RepD M w d x):RepD M w (.clo g caps) (.func (.func g) #[] vs.toArray)
 |nei (t:TypeId) (x:Value):RepD M w .nei (.iface t x)
structure Keep (M:Nat→Prop)(w:World)(M':Nat→Prop)(w':World):Prop where
 size:w.heap.size≤w'.heap.size
 block:∀b,b < w.heap.size→¬M b→w'.heap[b]? =w.heap[b]?
 mu:∀b,b < w.heap.size→M' b→M b
theorem Keep.refl (M:Nat→Prop)(w:World):Keep M w M w:=⟨XB _,fun _ _ _=>rfl,fun _ _ h=>h⟩
theorem Keep.ext {M:Nat→Prop}{w w':World}(h:dw w w')(hM:∀b,M b→b < w.heap.size):Keep M w M w':=⟨h.size,fun b hb _=>h.block b hb,fun _ _ h=>h⟩
theorem RepD.keep {M M':Nat→Prop}{w w':World}(hk:Keep M w M' w'){d:D}{x:Value}(h:RepD M w d x):RepD M' w' d x:=by
 induction h with
 |v x=>exact .v x
 |nil sz ao cap hm=>exact .nil sz ao cap hm
 |sl sz rows b off cap f hM hb hc hm hr h1 dy bA ih=>
  refine .sl sz rows b off cap f (fun h=>hM (hk.mu b hb h)) (Yx hb hk.size) hc hm hr h1 (fun i j hi hj=>?_) ih;rw[←dy i j hi hj];exact Zl (a:=⟨b,off+i*sz+j,none⟩) (hk.block b hb hM)
 |ept cells b off f hM hb h1 dy bA ih=>
  refine .ept cells b off f (fun h=>hM (hk.mu b hb h)) (Yx hb hk.size) h1 (fun j hj=>?_) ih;rw[←dy j hj];exact Zl (a:=⟨b,off+j,none⟩) (hk.block b hb hM)
 |agg cells vs hl h1 bA ih=>exact .agg cells vs hl h1 ih
 |tup ds vs hl bA ih=>exact .tup ds vs hl ih
 |clo g caps vs hl bA ih=>exact .clo g caps vs hl ih
 |nei t x=>exact .nei t x
theorem RepD.one {M:Nat→Prop}{w:World}{d:D}{x:Value}(h:RepD M w d x)(h1:d.one=true):x.oneCell'=true:=by
 cases h<;>first|rfl|exact h1|(simp[D.one]at h1)
def RX:List (Nat × (Array Value→Prop)):=[]
def DO (M:Nat→Prop)(w:World):Prop:=∀x∈RX,¬M x.1∧∃vs E sp,w.heap[x.1]? =some (.cells vs E sp)∧x.2 vs
theorem DO.keep {M M':Nat→Prop}{w w':World}(h:DO M w)(hk:Keep M w M' w'):DO M' w':=fun x hx=>by
 obtain⟨h1,vs,E,sp,h2,h3⟩:=h x hx;have hlt:x.1 < w.heap.size:=(Yz.1 h2).1;exact⟨fun hm=>h1 (hk.mu _ hlt hm),vs,E,sp,(hk.block _ hlt h1).trans h2,h3⟩
inductive PV where
 |d (x:D)
 |any
 |ptr (k off:Nat)
 |own (k g:Nat)
 |rp (k g sz i j:Nat)
 |osl (k g sz a n:Nat)
 |clo (g:Nat) (caps:List PV)
 |agg (cells:List PV)
 |tup (vs:List PV)
 |mref (k:Nat)
def PV.one:PV→Bool
 | .d x=>x.one
 | .any=>false
 | .agg _=>false
 | .tup _=>false
 |_=>true
def fm:Value→Option Nat
 | .slice (some a) _ (_+1)=>some a.block
 |_=>none
inductive OwnV (w:World) (E sz:Nat):Value→Nat→List Value→Prop
 |nil:OwnV w E sz (.slice none 0 0) 0 []
 |zero (a:Addr):OwnV w E sz (.slice (some a) 0 0) 0 []
 |row (g n cap:Nat) (cur:Array Value) (xs:List Value) (h0:0 < cap) (hh:w.heap[g]? =some (.cells cur E (0,0))) (hn:n≤cap) (hm:cap≤maxLen) (hs:cur.size=cap*sz) (hl:xs.length=n*sz) (ht:cur.toList.take (n*sz)=xs):
  OwnV w E sz (.slice (some ⟨g,0,none⟩) n cap) n xs
theorem OwnV.one {w:World}{E sz:Nat}{v:Value}{n:Nat}{xs:List Value}(h:OwnV w E sz v n xs):v.oneCell'=true:=by cases h<;>rfl
theorem OwnV.len {w:World}{E sz:Nat}{v:Value}{n:Nat}{xs:List Value}(h:OwnV w E sz v n xs):xs.length=n*sz:=by
 cases h with
 |nil=>simp
 |zero=>simp
 |row g n cap cur xs h0 hh hn hm hs hl ht=>exact hl
theorem OwnV.lt {w:World}{E sz:Nat}{v:Value}{n:Nat}{xs:List Value}(h:OwnV w E sz v n xs){b:Nat}(hb:fm v=some b):b < w.heap.size:=by
 cases h with
 |nil=>cases hb
 |zero=>cases hb
 |row g n cap cur xs h0 hh hn hm hs hl ht=>
  obtain⟨cap,rfl⟩:∃c,cap=c+1:=⟨cap - 1,by omega⟩;simp only[fm,XX.injEq]at hb;subst hb;rcases XP g w.heap.size with hl|hl
  ·exact hl
  ·rw[YM hl]at hh;cases hh
theorem OwnV.same {w w':World}{E sz:Nat}{v:Value}{n:Nat}{xs:List Value}(h:OwnV w E sz v n xs)(hb:∀b,fm v=some b→w'.heap[b]? =w.heap[b]?):OwnV w' E sz v n xs:=by
 cases h with
 |nil=>exact .nil
 |zero a=>exact .zero a
 |row g n cap cur xs h0 hh hn hm hs hl ht=>
  refine .row g n cap cur xs h0 ?_ hn hm hs hl ht;rw[hb g (by obtain⟨cap,rfl⟩:∃c,cap=c+1:=⟨cap - 1,by omega⟩;rfl)];exact hh
structure Cx where
 M:Nat→Prop
 bl:Nat→Option Nat
 ov:Nat→Nat→Option Value
inductive RepP (c:Cx) (w:World):PV→Value→Prop
 |d (x:D) (v:Value) (h:RepD c.M w x v):RepP c w (.d x) v
 |any (v:Value):RepP c w .any v
 |ptr (k off b:Nat) (h:c.bl k=some b):RepP c w (.ptr k off) (.pointer (some ⟨b,off,none⟩))
 |own (k g:Nat) (v:Value) (h:c.ov k g=some v) (h1:v.oneCell'=true):RepP c w (.own k g) v
 |rp (k g sz i j b n cap:Nat) (h:c.ov k g=some (.slice (some ⟨b,0,none⟩) n cap)):RepP c w (.rp k g sz i j) (.pointer (some ⟨b,i*sz+j,none⟩))
 |osl (k g sz a n b o N cap:Nat) (h:c.ov k g=some (.slice (some ⟨b,0,none⟩) N cap)) (hn:a+n≤N) (hc:N≤cap) (ho:a < cap→o=a*sz):RepP c w (.osl k g sz a n) (.slice (some ⟨b,o,none⟩) n (cap - a))
 |clo (g:Nat) (caps:List PV) (vs:List Value) (hl:caps.length=vs.length)
  (bA:∀(j:Nat) (d:PV) (x:Value),caps[j]? =some d→vs[j]? =some x→RepP c w d x):RepP c w (.clo g caps) (.func (.func g) #[] vs.toArray)
 |agg (cells:List PV) (vs:List Value) (hl:cells.length=vs.length) (h1:∀d∈cells,d.one=true)
  (bA:∀(j:Nat) (d:PV) (x:Value),cells[j]? =some d→vs[j]? =some x→RepP c w d x):RepP c w (.agg cells) (.agg vs.toArray)
 |tup (ds:List PV) (vs:List Value) (hl:ds.length=vs.length)
  (bA:∀(j:Nat) (d:PV) (x:Value),ds[j]? =some d→vs[j]? =some x→RepP c w d x):RepP c w (.tup ds) (.tuple vs.toArray)
 |mref (k b:Nat) (h:c.bl k=some b):RepP c w (.mref k) (.map (some b))
structure Cx.le (c c':Cx):Prop where
 bl:∀k b,c.bl k=some b→c'.bl k=some b
 ov:∀k g v,c.ov k g=some v→c'.ov k g=some v
theorem Cx.le_refl (c:Cx):c.le c:=⟨fun _ _ h=>h,fun _ _ _ h=>h⟩
theorem RepP.keep {c c':Cx}{w w':World}(hc:c.le c')(hk:Keep c.M w c'.M w'){d:PV}{x:Value}(h:RepP c w d x):RepP c' w' d x:=by
 induction h with
 |d x v h=>exact .d x v (h.keep hk)
 |any v=>exact .any v
 |ptr k off b h=>exact .ptr k off b (hc.bl _ _ h)
 |own k g v h h1=>exact .own k g v (hc.ov _ _ _ h) h1
 |rp k g sz i j b n cap h=>exact .rp k g sz i j b n cap (hc.ov _ _ _ h)
 |osl k g sz a n b o N cap h hn wH ho=>exact .osl k g sz a n b o N cap (hc.ov _ _ _ h) hn wH ho
 |clo g caps vs hl bA ih=>exact .clo g caps vs hl ih
 |agg cells vs hl h1 bA ih=>exact .agg cells vs hl h1 ih
 |tup ds vs hl bA ih=>exact .tup ds vs hl ih
 |mref k b h=>exact .mref k b (hc.bl _ _ h)
theorem RepP.one {c:Cx}{w:World}{d:PV}{x:Value}(h:RepP c w d x)(h1:d.one=true):x.oneCell'=true:=by
 cases h with
 |d x v h=>exact h.one h1
 |any=>simp[PV.one]at h1
 |ptr=>rfl
 |own k g v h h2=>exact h2
 |agg=>simp[PV.one]at h1
 |tup=>simp[PV.one]at h1
 |_=>rfl
inductive Chunk where
 |none
 |gone
 |box (T:Nat) (cells:List PV)
 |row (E sz g:Nat) (rows:List (List PV))
 |mp (n:Nat) (s:Bool) (ents:List (List Int × Int))
 |it (n:Nat) (s:Bool) (ents:List (List Int × Int)) (seen:List Nat)
def ab (rows:List (List D)):List (List PV):=rows.map (·.map .d)
def i5 (s:Bool)(ks:List Int):Value:=if s then .agg (ks.map (.int .i64)).toArray else .int .i64 (ks.headD 0)
def bu (s:Bool):List (List Int × Int)→Nat→List MapEntry
 |[],_=>[]
 |(k,v)::l,i=>{key:=i5 s k,val:= .int .i64 v,born:=i}::bu s l (i+1)
def Cx.block (c:Cx)(k:Nat):Chunk→Option Nat
 | .box _ _=>c.bl k
 | .row _ _ g _=>(c.ov k g).bind fm
 | .mp _ _ _=>c.bl k
 | .it _ _ _ _=>c.bl k
 |_=>Option.none
def bG (c:Cx)(w:World)(ds:List PV)(vs:List Value):Prop:=ds.length=vs.length∧∀(j:Nat) (d:PV) (x:Value),ds[j]? =some d→vs[j]? =some x→RepP c w d x
def dZ (M:Nat→Prop)(w:World)(ds:List D)(vs:List Value):Prop:=ds.length=vs.length∧∀(j:Nat) (d:D) (x:Value),ds[j]? =some d→vs[j]? =some x→RepD M w d x
theorem bG.keep {c c':Cx}{w w':World}(hc:c.le c')(hk:Keep c.M w c'.M w'){ds:List PV}{vs:List Value}(h:bG c w ds vs):bG c' w' ds vs:=⟨h.1,fun j d x h1 h2=>(h.2 j d x h1 h2).keep hc hk⟩
theorem dZ.keep {M M':Nat→Prop}{w w':World}(hk:Keep M w M' w'){ds:List D}{vs:List Value}(h:dZ M w ds vs):dZ M' w' ds vs:=⟨h.1,fun j d x h1 h2=>(h.2 j d x h1 h2).keep hk⟩
inductive ChunkOK (c:Cx) (w:World) (k:Nat):Chunk→Prop
 |none (h1:c.bl k= .none) (h2:∀g,c.ov k g= .none):ChunkOK c w k .none
 |gone:ChunkOK c w k .gone
 |box (T:Nat) (cells:List PV) (b:Nat) (vs:List Value) (hb:c.bl k=some b) (hh:w.heap[b]? =some (.cells vs.toArray T (0,0))) (hr:bG c w cells vs) (h1:∀d∈cells,d.one=true):ChunkOK c w k (.box T cells)
 |row (E sz g:Nat) (rows:List (List PV)) (v:Value) (xs:List Value) (hv:c.ov k g=some v) (cX:OwnV w E sz v rows.length xs) (hr:bG c w rows.flatten xs)
  (cP:∀r∈rows,r.length=sz) (h1:∀r∈rows,∀d∈r,d.one=true) (hg:∀g',g < g'→c.ov k g'= .none):ChunkOK c w k (.row E sz g rows)
 |mp (n:Nat) (s:Bool) (ents:List (List Int × Int)) (b:Nat) (hb:c.bl k=some b) (hh:w.heap[b]? =some (.map (bu s ents 0).toArray ents.length)) (hn:∀kv∈ents,kv.1.length=n):ChunkOK c w k (.mp n s ents)
 |it (n:Nat) (s:Bool) (ents:List (List Int × Int)) (seen:List Nat) (b bm:Nat) (hb:c.bl k=some b) (hh:w.heap[b]? =some (.mapIter (some bm) ents.length seen.toArray ents.length)) (hM:¬c.M bm) (hm:w.heap[bm]? =some (.map (bu s ents 0).toArray ents.length)):ChunkOK c w k (.it n s ents seen)
structure FS where
 env:Nat→PV
 heap:Nat→Chunk
structure ExtL (L:Nat→Prop)(w w':World):Prop where
 os:w'.os=w.os
 tape:w'.tape=w.tape
 output:w'.output=w.output
 size:w.heap.size≤w'.heap.size
 block:∀b,b < w.heap.size→¬L b→w'.heap[b]? =w.heap[b]?
theorem ExtL.refl (L:Nat→Prop)(w:World):ExtL L w w:=⟨rfl,rfl,rfl,XB _,fun _ _ _=>rfl⟩
theorem ExtL.trans {L:Nat→Prop}{w w' w'':World}(h:ExtL L w w')(g:ExtL L w' w''):ExtL L w w'':=
 ⟨g.os.trans h.os,g.tape.trans h.tape,g.output.trans h.output,Yy h.size g.size,fun b hb hl=>(g.block b (Yx hb h.size) hl).trans (h.block b hb hl)⟩
theorem ExtL.of_ext {L:Nat→Prop}{w w':World}(h:dw w w'):ExtL L w w':=⟨h.os,h.tape,h.output,h.size,fun b hb _=>h.block b hb⟩
theorem ExtL.ext {w w':World}(h:ExtL (fun _=>False) w w'):dw w w':=⟨h.os,h.tape,h.output,h.size,fun b hb=>h.block b hb id⟩
structure Cfg where
 P:Program
 n:Nat
 m:Nat
 w0:World
 M0:Nat→Prop
 L:Nat→Prop
 c0:Cx
structure RealC (X:Cfg)(s:FS)(a:Act)(w:World)(c:Cx):Prop where
 size:a.tmps.size=X.n
 defers:a.defers=[]
 ext:ExtL X.L X.w0 w
 inv:DO (fun b=>X.M0 b∨X.L b) X.w0
 fresh:∀b,X.M0 b→b < X.w0.heap.size∧¬X.L b
 mu:∀b,c.M b↔X.M0 b∨∃k,c.block k (s.heap k)=some b
 new:∀k b,c.block k (s.heap k)=some b→(X.L b∨X.w0.heap.size≤b)∧b < w.heap.size
 apart:∀k k' b,c.block k (s.heap k)=some b→c.block k' (s.heap k')=some b→k=k'
 env:∀t,RepP c w (s.env t) (a.tmps.getD t undef)
 chunk:∀k,ChunkOK c w k (s.heap k)
 lent:∀k,k < X.m→c.bl k=X.c0.bl k∧∀g v,X.c0.ov k g=some v→c.ov k g=some v
theorem RealC.ginv {X:Cfg}{s:FS}{a:Act}{w:World}{c:Cx}(h:RealC X s a w c):DO c.M w:=
 h.inv.keep ⟨h.ext.size,fun b hb hn=>h.ext.block b hb (fun hl=>hn (.inr hl)),fun b hb hm=>by
  rcases(h.mu b).1 hm with h0|⟨k,hk⟩
  ·exact .inl h0
  ·rcases(h.new k b hk).1 with h1|h1
   ·exact .inr h1
   ·omega⟩
def j7 (X:Cfg)(s:FS)(a:Act)(w:World):Prop:=∃c,RealC X s a w c
structure Res where
 pv:PV
 eff:List (Nat × Chunk):=[]
 touch:List Nat:=[]
def cE:List (Nat × Chunk)→(Nat→Chunk)→Nat→Chunk
 |[],h=>h
 |(k,c)::l,h=>fun k'=>if k'=k then c else cE l h k'
def FS.put (s:FS)(dst:Option Nat)(p:PV):FS:=
 match dst with
 |some d=>{s with env:=fun t=>if t=d then p else s.env t}
 |none=>s
def FS.app (s:FS)(dst:Option Nat)(r:Res):FS:=FS.put {s with heap:=cE r.eff s.heap} dst r.pv
def bI (X:Cfg)(ops:Array Oper)(s:FS)(o:Oper)(r:Res):Prop:=
 (∀d,o.dst=some d→d < X.n)∧(∀kc∈r.eff,kc.1∈r.touch)∧
 ∀s':FS,(∀t∈o.looksAt ops,s'.env t=s.env t)→(∀k∈r.touch,s'.heap k=s.heap k)→∀a w,j7 X s' a w→
  ∀K Q,(∀v w',j7 X (s'.app o.dst r) (a.put o.dst v) w'→K (a.put o.dst v) w')→Oper.wp X.P o a w K Q
structure It where
 o:Oper
 want:Bool
 res:Res
def zl (ops:Array Oper)(s:FS)(j:Nat):Option (Option Bool):=
 match (ops[j]?).bind (·.dst)with
 |none=>some none
 |some t=>match s.env t with
  | .d (.v (.bool b))=>some (some b)
  | .d (.v (.tuple _))=>some none
  |_=>none
def nM (ops:Array Oper)(s:FS)(o:Oper):Option Bool:=
 match o.guard with
 |none=>some true
 |some (j,want)=>(zl ops s j).map (·==some want)
def DP:Res:={pv:= .d (.v undef)}
def Ja (X:Cfg)(ops:Array Oper)(s:FS)(it:It):Prop:=
 nM ops s it.o=some it.want∧(it.want=true→bI X ops s it.o it.res)∧(it.want=false→it.res=DP∧∀d,it.o.dst=some d→d < X.n)
theorem RealC.put {X:Cfg}{s:FS}{a:Act}{w:World}{c:Cx}(h:RealC X s a w c){p:PV}{v:Value}(hp:RepP c w p v){dst:Option Nat}(hd:∀d,dst=some d→d < X.n):
 RealC X (s.put dst p) (a.put dst v) w c:=by
 cases dst with
 |none=>exact h
 |some d=>
  have hd:=hd d rfl;refine⟨by simpa[Act.put]using h.size,by simpa[Act.put]using h.defers,h.ext,h.inv,h.fresh,h.mu,h.new,h.apart,fun t=>?_,h.chunk,h.lent⟩;by_cases ht:t=d
  ·subst ht;have hs:t < a.tmps.size:=by rw[h.size];exact hd
   simp only[FS.put,Act.put,if_true,Yu,Array.getElem?_setIfInBounds,hs];simpa[hs]using hp
  ·have bB:d≠t:=fun e=>ht e.symm;have:=h.env t;simp only[FS.put,Act.put,if_neg ht,Yu,S' bB];simpa[Yu]using this
theorem RealC.bool {X:Cfg}{s:FS}{a:Act}{w:World}{c:Cx}(h:RealC X s a w c){t:Nat}{x:Value}(ht:s.env t= .d (.v x)):a.tmps.getD t undef=x:=by
 have:=h.env t;rw[ht]at this;cases this with
 |d x v h=>cases h with|v=>rfl
theorem Jb {X:Cfg}{ops:Array Oper}{s:FS}{a:Act}{w:World}{o:Oper}{g:Bool}(h:j7 X s a w)(hg:nM ops s o=some g):Region.wanted o (yielded ops a.tmps)=g:=by
 obtain⟨c,h⟩:=h;unfold nM at hg;unfold Region.wanted;split at hg
 ·rename_i hn;simp only[hn];exact XX.inj hg
 ·rename_i j want hj;simp only[hj];unfold zl at hg;unfold yielded;split at hg
  ·rename_i hn;rw[hn];simp at hg;simpa using hg
  ·rename_i t hn;rw[hn];split at hg
   ·rename_i b hb;have:=h.bool hb;rw[Yu]at this;cases hx:a.tmps[t]? with
    |none=>rw[hx]at this;simp[undef]at this
    |some y=>
     rw[hx]at this;simp at this;subst this;simp only[Y6,hx];simpa using hg
   ·rename_i vs hb;have:=h.bool hb;rw[Yu]at this;cases hx:a.tmps[t]? with
    |none=>simp only[Y6,hx];simpa using hg
    |some y=>
     rw[hx]at this;simp at this;subst this;simp only[Y6,hx];simpa using hg
   ·simp at hg
theorem Jc {X:Cfg}{ops:Array Oper}{s s':FS}{it:It}{i:Nat}{a:Act}{w:World}{K:Act→World→Prop}{Q:Exit→Act→World→Prop}(hi:ops[i]? =some it.o)(h:Ja X ops s it)
 (he:∀t∈it.o.looksAt ops,s'.env t=s.env t) (hk:∀k∈it.res.touch,s'.heap k=s.heap k) (hr:j7 X s' a w)
 (hK:∀v w',j7 X (s'.app it.o.dst it.res) (a.put it.o.dst v) w'→K (a.put it.o.dst v) w'):wpOp X.P ops Q i K a w:=by
 obtain⟨h1,h2,h3⟩:=h;have hg:nM ops s' it.o=some it.want:=by
  rw[←h1];unfold nM;split
  ·rfl
  ·rename_i j want hj;unfold zl;cases hd:(ops[j]?).bind (·.dst)with
   |none=>rfl
   |some t=>
    have:=he t (by simp[Oper.looksAt,hj,hd]);simp only[this]
 have hw:=Jb hr hg;unfold wpOp;simp only[hi,hw];cases Ps:it.want with
 |true=>
  simp only[if_true];exact .inl ((h2 Ps).2.2 s' he hk a w hr K Q hK)
 |false=>
  obtain⟨qh,sP⟩:=h3 Ps;simp only[YB,if_false];refine hK undef w ?_;rw[qh];obtain⟨c,hc⟩:=hr;exact⟨c,hc.put (.d _ _ (.v _)) sP⟩
def j8 (X:Cfg)(ops:Array Oper):FS→Nat→List It→Prop
 |_,i,[]=>i=ops.size
 |s,i,it::its=>ops[i]? =some it.o∧Ja X ops s it∧j8 X ops (s.app it.o.dst it.res) (i+1) its
def rT (s:FS)(its:List It):FS:=its.foldl (fun s it=>s.app it.o.dst it.res) s
theorem uA {X:Cfg}{ops:Array Oper}{Q:Exit→Act→World→Prop}:∀(its:List It) (s:FS) (i:Nat) (a:Act) (w:World),j8 X ops s i its→j7 X s a w→
 (∀a' w',j7 X (rT s its) a' w'→Q .normal a' w')→wpOps X.P ops Q (List.range' i its.length) a w
 |[],_,_,a,w,_,hr,hQ=>hQ a w hr
 |it::its,s,i,a,w,⟨hi,I0,ht⟩,hr,hQ=>by
  rw[XA,List.range'_succ,wpOps_cons];exact Jc hi I0 (fun _ _=>rfl) (fun _ _=>rfl) hr fun v w' hr'=>uA its _ _ _ _ ht hr' hQ
theorem uB {X:Cfg}{ops:Array Oper}:∀(its:List It) (s:FS) (i:Nat),j8 X ops s i its→i+its.length=ops.size∧∀j it,its[j]? =some it→ops[i+j]? =some it.o∧Ja X ops (rT s (its.take j)) it
 |[],_,_,h=>⟨by simpa[j8]using h,fun j it h=>by simp at h⟩
 |it::its,s,i,⟨h1,h2,h3⟩=>by
  obtain⟨ih1,ih2⟩:=uB its _ _ h3;refine⟨by simp only[XA];omega,fun j x hj=>?_⟩;cases j with
  |zero=>
   simp at hj;subst hj;exact⟨h1,h2⟩
  |succ j=>
   have:=ih2 j x (by simpa using hj);refine⟨by rw[show i+(j+1)=i+1+j by omega];exact this.1,this.2⟩
def DQ (l:List Nat)(es:List Edge):Nat:=es.foldl (fun s e=>if Region.binds .any e then s|||2 ^ e.on|||l.getD e.on 0 else s) 0
def xb (ops:Array Oper):Nat→List Nat
 |0=>[]
 |n+1=>let l:=xb ops n;l++[DQ l (((ops[n]?).map (·.after.toList)).getD [])]
def nN (ops:Array Oper)(L:Nat→Bool):Prop:=∀j o,ops[j]? =some o→L j=true→∀e∈o.after.toList,Region.binds .any e=true→L e.on=true
theorem uC (l:List Nat)(i:Nat):∀(es:List Edge) (s:Nat),(es.foldl (fun s e=>if Region.binds .any e then s|||2 ^ e.on|||l.getD e.on 0 else s) s).testBit i=true→
 s.testBit i=true∨∃e∈es,Region.binds .any e=true∧(e.on=i∨(l.getD e.on 0).testBit i=true)
 |[],s,h=> .inl h
 |e::es,s,h=>by
  rw[YO]at h;rcases uC l i es _ h with h|⟨e',h1,h2⟩
  ·by_cases hb:Region.binds .any e=true
   ·rw[if_pos hb,Nat.testBit_or,Nat.testBit_or,Nat.testBit_two_pow]at h;simp only[Bool.or_eq_true,decide_eq_true_eq]at h;rcases h with (h|h)|h
    ·exact .inl h
    ·exact .inr ⟨e,by simp,hb,.inl h⟩
    ·exact .inr ⟨e,by simp,hb,.inr h⟩
   ·rw[if_neg hb]at h;exact .inl h
  ·exact .inr ⟨e',Zc _ h1,h2⟩
theorem s6 (ops:Array Oper):∀n,(xb ops n).length=n
 |0=>rfl
 |n+1=>by simp[xb,s6 ops n]
theorem jf {ops:Array Oper}{L:Nat→Bool}(hc:nN ops L):∀n j i,((xb ops n).getD j 0).testBit i=true→L j=true→L i=true
 |0,j,i,h,_=>by simp[xb]at h
 |n+1,j,i,h,hj=>by
  have bT:=s6 ops n;simp only[xb,XJ,List.getElem?_append]at h;split at h
  ·exact jf hc n j i (by simpa[XJ]using h) hj
  ·rename_i hge;rcases XP n j with hnj|hnj
   ·rw[bT]at h;rw[show ([DQ (xb ops n) (((ops[n]?).map (·.after.toList)).getD [])]:List Nat)[j - n]? =none by simp;omega]at h;simp at h
   ·obtain rfl:j=n:=by omega
    rw[bT,YG]at h;simp only[List.getElem?_cons_zero,YI]at h;unfold DQ at h;cases ho:ops[j]? with
    |none=>simp[ho]at h
    |some o=>
     rw[ho]at h;rcases uC _ _ _ _ h with h|⟨e,h1,h2,h3⟩
     ·simp at h
     ·have he:=hc j o ho hj e (by simpa using h1) h2;rcases h3 with h3|h3
      ·rw[←h3];exact he
      ·exact jf hc j e.on i (by simpa[XJ]using h3) he
def uD (ops:Array Oper)(x y:Oper)(kx ky tx ty:List Nat):Bool:=x.apart ops y&&kx.all (fun k=>!ty.contains k)&&ky.all (fun k=>!tx.contains k)
def nO (ops:Array Oper)(sm:List (List Nat × List Nat)):Bool:=
 let l:=xb ops ops.size
 (X5 ops.size).all fun j=>(X5 j).all fun i=>(l.getD j 0).testBit i||
  (match ops[i]?,ops[j]? with
   |some x,some y=>uD ops x y (sm.getD i ([],[])).1 (sm.getD j ([],[])).1 (sm.getD i ([],[])).2 (sm.getD j ([],[])).2
   |_,_=>false)
def AP (its:List It)(s:FS)(i:Nat):FS:=match its[i]? with|some it=>s.app it.o.dst it.res|none=>s
def lW (s:FS)(its:List It)(L:Nat→Bool):FS:=((X5 its.length).filter L).foldl (AP its) s
def eo (its:List It)(t:Nat)(i:Nat):Bool:=match its[i]? with|some it=>it.o.dst==some t|none=>false
def d5 (its:List It)(k:Nat)(i:Nat):Bool:=match its[i]? with|some it=>(it.res.eff.map (·.1)).contains k|none=>false
theorem zm {k:Nat}{h:Nat→Chunk}:∀{l:List (Nat × Chunk)},(l.map (·.1)).contains k=false→cE l h k=h k
 |[],_=>rfl
 |(k',c)::l,hn=>by
  simp only[Xm,List.contains_cons,Zm,beq_eq_false_iff_ne,ne_eq]at hn;simp only[cE,if_neg hn.1];exact zm hn.2
theorem zn {k:Nat}{h h':Nat→Chunk}:∀{l:List (Nat × Chunk)},(l.map (·.1)).contains k=true→cE l h k=cE l h' k
 |[],hn=>by simp at hn
 |(k',c)::l,hn=>by
  simp only[cE];split
  ·rfl
  ·rename_i bB;refine zn ?_;simpa[bB]using hn
theorem qp {s:FS}{dst:Option Nat}{r:Res}{t:Nat}:(s.app dst r).env t=if dst=some t then r.pv else s.env t:=by
 cases dst with
 |none=>simp[FS.app,FS.put]
 |some d=>
  simp only[FS.app,FS.put,XX.injEq];by_cases h:t=d
  ·subst h;simp
  ·rw[if_neg h,if_neg (fun e=>h e.symm)]
theorem nP {s:FS}{dst:Option Nat}{r:Res}{k:Nat}:(s.app dst r).heap k=cE r.eff s.heap k:=by
 cases dst<;>rfl
theorem qq (its:List It)(t:Nat):∀(l:List Nat) (s:FS),(l.foldl (AP its) s).env t=((l.filter (eo its t)).foldl (AP its) s).env t:=by
 have key:∀(l:List Nat) (s s':FS),s.env t=s'.env t→(l.foldl (AP its) s).env t=((l.filter (eo its t)).foldl (AP its) s').env t:=by
  intro l;induction l with
  |nil=>intro s s' h;exact h
  |cons i l ih=>
   intro s s' h;rw[YO,Zu];by_cases hw:eo its t i=true
   ·rw[if_pos hw,YO];refine ih _ _ ?_;unfold AP;unfold eo at hw;split<;>rename_i hi<;>rw[hi]at hw
    ·rw[qp,qp,if_pos (by simpa using hw),if_pos (by simpa using hw)]
    ·cases hw
   ·rw[if_neg hw];refine ih _ _ ?_;unfold AP;unfold eo at hw;split<;>rename_i hi<;>rw[hi]at hw
    ·rw[qp,if_neg (by simpa using hw),h]
    ·exact h
 intro l s;exact key l s s rfl
theorem oM (its:List It)(k:Nat):∀(l:List Nat) (s:FS),(l.foldl (AP its) s).heap k=((l.filter (d5 its k)).foldl (AP its) s).heap k:=by
 have key:∀(l:List Nat) (s s':FS),s.heap k=s'.heap k→(l.foldl (AP its) s).heap k=((l.filter (d5 its k)).foldl (AP its) s').heap k:=by
  intro l;induction l with
  |nil=>intro s s' h;exact h
  |cons i l ih=>
   intro s s' h;rw[YO,Zu];by_cases hw:d5 its k i=true
   ·rw[if_pos hw,YO];refine ih _ _ ?_;unfold AP;unfold d5 at hw;split<;>rename_i hi<;>rw[hi]at hw
    ·rw[nP,nP,zn hw]
    ·cases hw
   ·rw[if_neg hw];refine ih _ _ ?_;unfold AP;unfold d5 at hw;split<;>rename_i hi<;>rw[hi]at hw
    ·rw[nP,zm (by simpa using hw),h]
    ·exact h
 intro l s;exact key l s s rfl
theorem qr (s:FS)(its:List It):∀i,i≤its.length→rT s (its.take i)=(X5 i).foldl (AP its) s
 |0,_=>rfl
 |i+1,h=>by
  rw[List.range_succ,Zn,←qr s its i (by omega)];have hi:its[i]? =some its[i]:=Xk (by omega);simp only[YO,List.foldl_nil,AP,hi,rT];rw[List.take_succ_eq_append_getElem (by omega),Zn];rfl
theorem mK {n i:Nat}(hi:i≤n){p q:Nat→Bool}(h1:∀j,j < i→p j=q j)(h2:∀j,i≤j→j < n→p j=false):(X5 n).filter p=(X5 i).filter q:=by
 obtain⟨m,rfl⟩:∃m,n=i+m:=⟨n - i,by omega⟩;rw[List.range_add,YW];have e1:(X5 i).filter p=(X5 i).filter q:=Z2 fun j hj=>h1 j (YR.1 hj);have e2:(List.map (fun x=>i+x) (X5 m)).filter p=[]:=by
  rw[Zo];intro j hj;obtain⟨x,hx,rfl⟩:=XQ.1 hj;have:=YR.1 hx;rw[h2 _ (by omega) (by omega)];simp
 rw[e1,e2,Yv]
def DR (its:List It):List (List Nat × List Nat):=its.map fun it=>(it.res.eff.map (·.1),it.res.touch)
def nQ (ops:Array Oper):Bool:=(X5 ops.size).all fun i=>((ops[i]?).map fun o=>o.after.toList.all fun e=>!Region.binds .any e||decide (e.on < i)).getD true
section
variable {X:Cfg}{ops:Array Oper}{s:FS}{its:List It}
structure Plan (X:Cfg)(ops:Array Oper)(s:FS)(its:List It):Prop where
 len:its.length=ops.size
 at_:∀(j:Nat) (it:It),its[j]? =some it→ops[j]? =some it.o∧Ja X ops (rT s (its.take j)) it
 ind:∀(i j:Nat) (x y:It),i < j→its[i]? =some x→its[j]? =some y→((xb ops ops.size).getD j 0).testBit i=true∨uD ops x.o y.o (x.res.eff.map (·.1)) (y.res.eff.map (·.1)) x.res.touch y.res.touch=true
 sub:∀(j:Nat) (it:It),its[j]? =some it→∀kc∈it.res.eff,kc.1∈it.res.touch
 back:∀(i:Nat) (o:Oper),ops[i]? =some o→∀e∈o.after.toList,Region.binds .any e=true→e.on < i
theorem MY (ht:j8 X ops s 0 its)(hi:nO ops (DR its)=true)(hb:nQ ops=true):Plan X ops s its:=by
 obtain⟨h1,h2⟩:=uB its s 0 ht;simp only[XG]at h1 h2;refine⟨h1,h2,fun i j x y hij hx hy=>?_,fun j it hj kc MK=>?_,fun i o ho e he Ss=>?_⟩
 ·have St:j < ops.size:=by rw[←h1];exact(Xn.1 hy).1
  unfold nO at hi;simp only[XE,YR]at hi;have:=hi j St i hij;rw[(h2 i x hx).1,(h2 j y hy).1]at this;simp only[DR,XJ,Xz,hx,hy,Ye,YI,Bool.or_eq_true]at this;simpa[XJ]using this
 ·obtain⟨_,h3,h4,h5⟩:=h2 j it hj;cases hw:it.want with
  |true=>exact(h4 hw).2.1 kc MK
  |false=>rw[(h5 hw).1]at MK;simp[DP]at MK
 ·unfold nQ at hb;simp only[XE,YR]at hb;have:=hb i (Yz.1 ho).1;rw[ho]at this;simp only[Ye,YI,XE]at this;have:=this e he;simpa[Ss]using this
def tY (listed:Array Bool):Nat→Bool:=fun j=>listed.getD j false
theorem io {x y:Oper}{kx ky tx ty:List Nat}(h:uD ops x y kx ky tx ty=true):x.apart ops y=true∧(∀k∈kx,k∉ty)∧(∀k∈ky,k∉tx):=by
 simp only[uD,Xy,XE,Zz,List.contains_eq_mem,decide_eq_false_iff_not]at h;exact⟨h.1.1,h.1.2,h.2⟩
theorem ta {L:Nat→Bool}(hc:nN ops L){i:Nat}{o:Oper}(ho:ops[i]? =some o)(hr:∀e∈o.after,Region.binds .any e=true→L e.on=true):nN ops (fun j=>L j||j==i):=by
 intro j o' ho' hj e he hb;simp only[Bool.or_eq_true,beq_iff_eq]at hj ⊢;rcases hj with hj|hj
 ·exact .inl (hc j o' ho' hj e he hb)
 ·subst hj;rw[ho]at ho';cases ho';exact .inl (hr e (by simpa using he) hb)
theorem qs {L:Nat→Bool}(hc:nN ops L){i j:Nat}{o:Oper}(ho:ops[i]? =some o)(hr:∀e∈o.after,Region.binds .any e=true→L e.on=true)
 (hij:j≠i) (hb:((xb ops ops.size).getD i 0).testBit j=true):L j=true:=by
 have:=jf (ta hc ho hr) ops.size i j hb (by simp);simpa[hij]using this
variable (hp:Plan X ops s its)
include hp
theorem GJ {L:Nat→Bool}(hc:nN ops L){i:Nat}{it:It}(hi:its[i]? =some it)(hL:L i=false)(hr:∀e∈it.o.after,Region.binds .any e=true→L e.on=true)(t:Nat)(ht:t∈it.o.looksAt ops):
 (lW s its L).env t=(rT s (its.take i)).env t:=by
 have dB:i < its.length:=(Xn.1 hi).1;have Pt:=(hp.at_ i it hi).1;unfold lW;rw[qq its t ((X5 its.length).filter L),qr s its i (by omega),qq its t (X5 i),Zi];rw[mK (i:=i) (q:=eo its t) (by omega)]
 ·intro j hj;by_cases hw:eo its t j=true
  ·have E8:L j=true:=by
    unfold eo at hw;split at hw
    ·rename_i x hx;rcases hp.ind j i x it hj hx hi with hb|hn
     ·exact qs hc Pt hr (by omega) hb
     ·exact absurd ht ((Oper.apart_spec (io hn).1).1 t (by simpa using hw))
    ·cases hw
   simp[hw,E8]
  ·simp at hw;simp[hw]
 ·intro j hj St;by_cases hw:eo its t j=true
  ·rcases XP i j with hij|hij
   ·cases E8:L j with
    |false=>simp
    |true=>
     unfold eo at hw;split at hw
     ·rename_i x hx;rcases hp.ind i j it x hij hi hx with hb|hn
      ·rw[jf hc ops.size j i hb E8]at hL;cases hL
      ·exact absurd ht ((Oper.apart_spec (io hn).1).2.2 t (by simpa using hw))
     ·cases hw
   ·obtain rfl:j=i:=by omega
    simp[hL]
  ·simp at hw;simp[hw]
theorem DS {L:Nat→Bool}(hc:nN ops L){i:Nat}{it:It}(hi:its[i]? =some it)(hL:L i=false)(hr:∀e∈it.o.after,Region.binds .any e=true→L e.on=true)(k:Nat)(ht:k∈it.res.touch):
 (lW s its L).heap k=(rT s (its.take i)).heap k:=by
 have dB:i < its.length:=(Xn.1 hi).1;have Pt:=(hp.at_ i it hi).1;unfold lW;rw[oM its k ((X5 its.length).filter L),qr s its i (by omega),oM its k (X5 i),Zi];rw[mK (i:=i) (q:=d5 its k) (by omega)]
 ·intro j hj;by_cases hw:d5 its k j=true
  ·have E8:L j=true:=by
    unfold d5 at hw;split at hw
    ·rename_i x hx;rcases hp.ind j i x it hj hx hi with hb|hn
     ·exact qs hc Pt hr (by omega) hb
     ·exact absurd ht ((io hn).2.1 k (by simpa using hw))
    ·cases hw
   simp[hw,E8]
  ·simp at hw;simp[hw]
 ·intro j hj St;by_cases hw:d5 its k j=true
  ·rcases XP i j with hij|hij
   ·cases E8:L j with
    |false=>simp
    |true=>
     unfold d5 at hw;split at hw
     ·rename_i x hx;rcases hp.ind i j it x hij hi hx with hb|hn
      ·rw[jf hc ops.size j i hb E8]at hL;cases hL
      ·exact absurd ht ((io hn).2.2 k (by simpa using hw))
     ·cases hw
   ·obtain rfl:j=i:=by omega
    simp[hL]
  ·simp at hw;simp[hw]
theorem Jd {L:Nat→Bool}(hc:nN ops L){i:Nat}{it:It}(hi:its[i]? =some it)(hL:L i=false):
 lW s its (fun j=>L j||j==i)=(lW s its L).app it.o.dst it.res:=by
 have dB:i < its.length:=(Xn.1 hi).1;have late:∀(j:Nat) (x:It),i < j→its[j]? =some x→L j=true→uD ops it.o x.o (it.res.eff.map (·.1)) (x.res.eff.map (·.1)) it.res.touch x.res.touch=true:=by
  intro j x hij hx E8;rcases hp.ind i j it x hij hi hx with hb|hn
  ·rw[jf hc ops.size j i hb E8]at hL;cases hL
  ·exact hn
 have LZ:∀t,(lW s its (fun j=>L j||j==i)).env t=((lW s its L).app it.o.dst it.res).env t:=by
  intro t;rw[qp];unfold lW;rw[qq,Zi];by_cases hw:it.o.dst=some t
  ·rw[if_pos hw];rw[mK (i:=i+1) (q:=fun j=>eo its t j&&(L j||j==i)) (by omega) (fun _ _=>rfl),List.range_succ,YW,Zn]
   ·have:(fun j=>eo its t j&&(L j||j==i)) i=true:=by simp[eo,hi,hw]
    rw[Zu,if_pos this,List.filter_nil,YO,List.foldl_nil];simp only[AP,hi];rw[qp,if_pos hw]
   ·intro j hj St;cases E8:L j with
    |false=>
     have jW:(j==i)=false:=by rw[beq_eq_false_iff_ne];omega
     simp only[jW,E8,Bool.or_self,Bool.and_false]
    |true=>
     cases hx:its[j]? with
     |none=>simp[eo,hx]
     |some x=>
      have h2:=(Oper.apart_spec (io (late j x (by omega) hx E8)).1).2.1 t hw;simp[eo,hx,h2]
  ·rw[if_neg hw,qq its t ((X5 its.length).filter L),Zi];rw[Z2 (p:=fun j=>eo its t j&&(L j||j==i)) (q:=fun j=>eo its t j&&L j)];intro j _;by_cases jW:j=i
   ·subst jW;simp[eo,hi,hw]
   ·have At:(j==i)=false:=by rw[beq_eq_false_iff_ne];exact jW
    simp only[At,Bool.or_false]
 have Su:∀k,(lW s its (fun j=>L j||j==i)).heap k=((lW s its L).app it.o.dst it.res).heap k:=by
  intro k;rw[nP];unfold lW;rw[oM,Zi];by_cases hw:(it.res.eff.map (·.1)).contains k=true
  ·rw[mK (i:=i+1) (q:=fun j=>d5 its k j&&(L j||j==i)) (by omega) (fun _ _=>rfl),List.range_succ,YW,Zn]
   ·have:(fun j=>d5 its k j&&(L j||j==i)) i=true:=by
     simp only[d5,hi,hw];simp
    rw[Zu,if_pos this,List.filter_nil,YO,List.foldl_nil];simp only[AP,hi];rw[nP];exact zn hw
   ·intro j hj St;cases E8:L j with
    |false=>
     have jW:(j==i)=false:=by rw[beq_eq_false_iff_ne];omega
     simp only[jW,E8,Bool.or_self,Bool.and_false]
    |true=>
     cases hx:its[j]? with
     |none=>simp[d5,hx]
     |some x=>
      have h2:=(io (late j x (by omega) hx E8)).2.1 k (by simpa using hw);have h3:(x.res.eff.map (·.1)).contains k=false:=by
       cases jC:(x.res.eff.map (·.1)).contains k with
       |false=>rfl
       |true=>
        obtain⟨kc,h4,h5⟩:=XQ.1 (by simpa using jC:k∈x.res.eff.map (·.1));exact absurd (h5 ▸ hp.sub j x hx kc h4) h2
      simp only[d5,hx,h3,Bool.false_and]
  ·rw[zm (by simpa using hw),oM its k ((X5 its.length).filter L),Zi];rw[Z2 (p:=fun j=>d5 its k j&&(L j||j==i)) (q:=fun j=>d5 its k j&&L j)];intro j _;by_cases jW:j=i
   ·subst jW;have:d5 its k j=false:=by simp only[d5,hi];simpa using hw
    simp[this]
   ·have At:(j==i)=false:=by rw[beq_eq_false_iff_ne];exact jW
    simp only[At,Bool.or_false]
 generalize e1:lW s its (fun j=>L j||j==i)=x at*;generalize e2:(lW s its L).app it.o.dst it.res=y at*;cases x;cases y;simp only[FS.mk.injEq];exact⟨funext LZ,funext Su⟩
theorem DT {listed:Array Bool}(hs:listed.size=ops.size)(hr:Region.ready .any ops listed=[]):∀j,j < ops.size→tY listed j=true:=by
 intro j;induction j using Nat.strongRecOn with
 |_ j ih=>
  intro hj;cases hl:tY listed j with
  |true=>rfl
  |false=>
   obtain⟨o,ho⟩:∃o,ops[j]? =some o:=⟨ops[j],YP hj⟩;have:j∈Region.ready .any ops listed:=by
    rw[mem_ready];refine⟨?_,o,ho,fun e he hb=>?_⟩
    ·unfold tY at hl;rw[Yu,YP (by omega)]at hl ⊢;simpa using hl
    ·have hlt:=hp.back j o ho e (by simpa using he) hb;exact ih e.on hlt (by omega)
   rw[hr]at this;cases this
theorem Je {Q:Exit→Act→World→Prop}(hQ:∀a' w',j7 X (rT s its) a' w'→Q .normal a' w'):∀(fuel:Nat) (listed:Array Bool) (a:Act) (w:World),listed.size=ops.size→nN ops (tY listed)→
 j7 X (lW s its (tY listed)) a w→((X5 ops.size).filter fun j=>!tY listed j).length≤fuel→wpAny X.P .any ops Q fuel listed a w:=by
 have fin:∀(listed:Array Bool) (a:Act) (w:World),listed.size=ops.size→j7 X (lW s its (tY listed)) a w→Region.ready .any ops listed=[]→Q .normal a w:=by
  intro listed a w hs hr he;have bP:=DT hp hs he;have:lW s its (tY listed)=rT s its:=by
   have h1:=qr s its its.length (XB _);rw[Xt]at h1;rw[h1];unfold lW;congr 1;rw[Y0];intro j hj;exact bP j (by rw[←hp.len];exact YR.1 hj)
  rw[this]at hr;exact hQ a w hr
 intro fuel;induction fuel with
 |zero=>
  intro listed a w hs hc hr hn;have bP:∀j,j < ops.size→tY listed j=true:=by
   intro j hj;have h0:=X9 (Nat.le_zero.1 hn);rw[Zo]at h0;have:=h0 j (YR.2 hj);simpa using this
  have he:Region.ready .any ops listed=[]:=by
   rw[List.eq_nil_iff_forall_not_mem];intro j hj;rw[mem_ready]at hj;obtain⟨h1,o,ho,_⟩:=hj;have hlt:=(Yz.1 ho).1;have:=bP j hlt;unfold tY at this;rw[Yu,YP (by omega)]at this h1;simp at this h1;rw[this]at h1;cases h1
  exact⟨he,fin listed a w hs hr he⟩
 |succ fuel ih=>
  intro listed a w hs hc hr hn;refine⟨fin listed a w hs hr,fun i hi=>?_⟩;rw[mem_ready]at hi;obtain⟨h1,o,ho,bP⟩:=hi;have hlt:=(Yz.1 ho).1;have hL:tY listed i=false:=by
   unfold tY;rw[Yu,YP (by omega)]at h1 ⊢;simpa using h1
  obtain⟨it,I0⟩:∃it,its[i]? =some it:=⟨its[i]'(by rw[hp.len];exact hlt),Xk _⟩;obtain⟨Pt,bF⟩:=hp.at_ i it I0;rw[ho]at Pt;cases Pt;have Ue:tY (listed.setIfInBounds i true)=fun j=>tY listed j||j==i:=by
   funext j;unfold tY;by_cases jW:j=i
   ·subst jW;simp[Yu,hs,hlt]
   ·rw[getD_set_ne false (fun e=>jW e.symm)];simp[jW]
  refine Jc ho bF (GJ hp hc I0 hL bP) (DS hp hc I0 hL bP) hr fun v w' hr'=>?_;refine ih _ _ _ (by simpa using hs) ?_ ?_ ?_
  ·rw[Ue];exact ta hc ho bP
  ·rw[Ue,Jd hp hc I0 hL];exact hr'
  ·rw[Ue];have Uf:((X5 ops.size).filter fun j=>!(tY listed j||j==i)).length < ((X5 ops.size).filter fun j=>!tY listed j).length:=by
    have wI:((X5 ops.size).filter fun j=>!(tY listed j||j==i))=((X5 ops.size).filter fun j=>!tY listed j).filter (fun j=>!(j==i)):=by
     rw[Zi];exact Z2 fun j _=>by cases tY listed j<;>simp
    rw[wI];refine List.length_filter_lt_length_iff_exists.2 ⟨i,?_,by simp⟩;rw[Zt];exact⟨YR.2 hlt,by simp[hL]⟩
   show ((X5 ops.size).filter fun j=>!(tY listed j||j==i)).length≤fuel;omega
end
theorem xT (n j:Nat):tY (Y5 n false) j=false:=by
 unfold tY;rw[Yu,Array.getElem?_replicate];split<;>rfl
theorem AQ {X:Cfg}{ops:Array Oper}{s:FS}{its:List It}{Q:Exit→Act→World→Prop}{a:Act}{w:World}(hm:X.P.follows .mixedOrders=true)(id:Nat)(draw:Bool)(ht:j8 X ops s 0 its)(hd:draw=true→nO ops (DR its)=true∧nQ ops=true)
 (hr:j7 X s a w) (hQ:∀a' w',j7 X (rT s its) a' w'→Q .normal a' w'):(Code.region id ops draw).wp X.P Q a w:=by
 cases draw with
 |false=>
  refine wp_region ?_;have h1:=(uB its s 0 ht).1;have:=uA its s 0 a w ht hr hQ;rw[List.range_eq_range',←h1,XG];exact this
 |true=>
  obtain⟨hi,hb⟩:=hd rfl;refine wp_region_any hm (Je (MY ht hi hb) hQ _ _ _ _ (by simp) ?_ ?_ ?_)
  ·intro j o ho hj;rw[xT]at hj;cases hj
  ·have:lW s its (tY (Y5 ops.size false))=s:=by
    unfold lW;have:(X5 its.length).filter (tY (Y5 ops.size false))=[]:=by
     rw[Zo];intro j _;simp[xT]
    rw[this];rfl
   rw[this];obtain⟨c,hc⟩:=hr;refine⟨c,hc.size,hc.defers,⟨hc.ext.os,hc.ext.tape,hc.ext.output,hc.ext.size,hc.ext.block⟩,hc.inv,hc.fresh,hc.mu,hc.new,hc.apart,fun t=>?_,fun k=>?_,hc.lent⟩
   ·have hk:Keep c.M w c.M {w with drawn:=w.drawn+1}:=⟨XB _,fun _ _ _=>rfl,fun _ _ h=>h⟩;exact(hc.env t).keep c.le_refl hk
   ·have hk:Keep c.M w c.M {w with drawn:=w.drawn+1}:=⟨XB _,fun _ _ _=>rfl,fun _ _ h=>h⟩;cases bc:s.heap k with
    |none=>have:=hc.chunk k;rw[bc]at this;cases this with|none h1 h2=>exact .none h1 h2
    |gone=>exact .gone
    |box T cells=>have:=hc.chunk k;rw[bc]at this;cases this with|box _ _ b vs hb hh hr h1=>exact .box T cells b vs hb hh (hr.keep c.le_refl hk) h1
    |row E sz g rows=>have:=hc.chunk k;rw[bc]at this;cases this with|row _ _ _ _ v xs hv cX hr cP h1 hg=>exact .row E sz g rows v xs hv (cX.same fun _ _=>rfl) (hr.keep c.le_refl hk) cP h1 hg
    |mp nB sB ents=>have:=hc.chunk k;rw[bc]at this;cases this with|mp _ _ _ b hb hh hn=>exact .mp nB sB ents b hb hh hn
    |it nB sB ents seen=>have:=hc.chunk k;rw[bc]at this;cases this with|it _ _ _ _ b bm hb hh hM hm=>exact .it nB sB ents seen b bm hb hh hM hm
  ·refine Yy (Za _ _) ?_;simp
theorem ChunkOK.keep {k:Nat}{c c':Cx}{w w':World}{ch:Chunk}(h:ChunkOK c w k ch)(hle:c.le c')(hk:Keep c.M w c'.M w')(hb:∀b,c.block k ch=some b→w'.heap[b]? =w.heap[b]?)
 (tP:c'.bl k=c.bl k) (ee:c'.ov k=c.ov k):ChunkOK c' w' k ch:=by
 cases h with
 |none h1 h2=>exact .none (by rw[tP];exact h1) (fun g=>by rw[ee];exact h2 g)
 |gone=>exact .gone
 |box T cells b vs cn hh hr h1=>exact .box T cells b vs (by rw[tP];exact cn) (by rw[hb b cn];exact hh) (hr.keep hle hk) h1
 |row E sz g rows v xs hv cX hr cP h1 hg=>
  exact .row E sz g rows v xs (by rw[ee];exact hv) (cX.same fun b e=>hb b (by simp[Cx.block,hv,e])) (hr.keep hle hk) cP h1 (by rw[ee];exact hg)
 |mp nB sB ents b cn hh hn=>exact .mp nB sB ents b (by rw[tP];exact cn) (by rw[hb b cn];exact hh) hn
 |it nB sB ents seen b bm cn hh hM hm=>
  have hlt:bm < w.heap.size:=(Yz.1 hm).1;exact .it nB sB ents seen b bm (by rw[tP];exact cn) (by rw[hb b cn];exact hh) (fun h=>hM (hk.mu _ hlt h)) (by rw[hk.block _ hlt hM];exact hm)
theorem RealC.lt {X:Cfg}{s:FS}{a:Act}{w:World}{c:Cx}(h:RealC X s a w c){b:Nat}(hb:c.M b):b < w.heap.size:=by
 rcases(h.mu b).1 hb with h0|⟨k,hk⟩
 ·exact Yx (h.fresh b h0).1 h.ext.size
 ·exact(h.new k b hk).2
theorem RealC.grow {X:Cfg}{s:FS}{a:Act}{w w':World}{c:Cx}(h:RealC X s a w c)(hx:dw w w'):RealC X s a w' c:=by
 have hk:Keep c.M w c.M w':=Keep.ext hx fun b hb=>h.lt hb;exact⟨h.size,h.defers,h.ext.trans (.of_ext hx),h.inv,h.fresh,h.mu,fun k b hb=>⟨(h.new k b hb).1,Yx (h.new k b hb).2 hx.size⟩,h.apart,fun t=>(h.env t).keep c.le_refl hk,
  fun k=>(h.chunk k).keep c.le_refl hk (fun b hb=>hx.block b (h.new k b hb).2) rfl rfl,h.lent⟩
theorem jg (w:World)(o:Obj):dw w (w.alloc o):=(Below.refl _ _).alloc (XB _) o
theorem jD (w:World)(o:Obj):(w.alloc o).heap[w.heap.size]? =some o:=by
 show (w.heap.push o)[w.heap.size]? =some o;simp
theorem size_alloc (w:World)(o:Obj):(w.alloc o).heap.size=w.heap.size+1:=by
 show (w.heap.push o).size=_;simp
theorem qt (k:Nat)(c:Chunk)(h:Nat→Chunk):cE [(k,c)] h=fun k'=>if k'=k then c else h k':=rfl
theorem RealC.new_chunk {X:Cfg}{s:FS}{a:Act}{w w':World}{c c':Cx}(h:RealC X s a w c){k:Nat}{ch:Chunk}(hk:s.heap k= .none)(tQ:¬k < X.m)(hx:dw w w')(hle:c.le c')(tP:∀k',k'≠k→c'.bl k'=c.bl k')(ee:∀k',k'≠k→c'.ov k'=c.ov k')
 (hM:∀b,c'.M b↔c.M b∨c'.block k ch=some b) (lc:∀b,c'.block k ch=some b→w.heap.size≤b∧b < w'.heap.size)
 (OI:Keep c.M w c'.M w'→ChunkOK c' w' k ch):RealC X {s with heap:=cE [(k,ch)] s.heap} a w' c':=by
 have lK:Keep c.M w c'.M w':=⟨hx.size,fun b hb _=>hx.block b hb,fun b hb hm=>by
  rcases(hM b).1 hm with h1|h1
  ·exact h1
  ·have:=(lc b h1).1;omega⟩
 have cG:∀k' ch',k'≠k→c'.block k' ch'=c.block k' ch':=by
  intro k' ch' bB;cases ch'<;>simp[Cx.block,tP k' bB,ee k' bB]
 have cY:∀k',cE [(k,ch)] s.heap k'=if k'=k then ch else s.heap k':=fun _=>rfl;refine⟨h.size,h.defers,h.ext.trans (.of_ext hx),h.inv,h.fresh,fun b=>?_,fun k' b hb=>?_,fun k' k'' b hb hb'=>?_,fun t=>(h.env t).keep hle lK,fun k'=>?_,fun k' hk'=>⟨(tP k' (fun e=>tQ (e ▸ hk'))).trans (h.lent k' hk').1,fun g v hv=>hle.ov _ _ _ ((h.lent k' hk').2 g v hv)⟩⟩
 ·rw[hM b,h.mu b];constructor
  ·rintro ((h0|⟨k',h1⟩)|h1)
   ·exact .inl h0
   ·refine .inr ⟨k',?_⟩;have bB:k'≠k:=fun e=>by subst e;rw[hk]at h1;simp[Cx.block]at h1
    show c'.block k' (cE [(k,ch)] s.heap k')=_;rw[cY,if_neg bB,cG k' _ bB];exact h1
   ·refine .inr ⟨k,?_⟩;show c'.block k (cE [(k,ch)] s.heap k)=_;rw[cY,if_pos rfl];exact h1
  ·rintro (h0|⟨k',h1⟩)
   ·exact .inl (.inl h0)
   ·simp only[cY]at h1;by_cases bB:k'=k
    ·subst bB;rw[if_pos rfl]at h1;exact .inr h1
    ·rw[if_neg bB,cG k' _ bB]at h1;exact .inl (.inr ⟨k',h1⟩)
 ·simp only[cY]at hb;by_cases bB:k'=k
  ·subst bB;rw[if_pos rfl]at hb;exact⟨.inr (Yy h.ext.size (lc b hb).1),(lc b hb).2⟩
  ·rw[if_neg bB,cG k' _ bB]at hb;exact⟨(h.new k' b hb).1,Yx (h.new k' b hb).2 hx.size⟩
 ·simp only[cY]at hb hb';by_cases h1:k'=k
  ·by_cases h2:k''=k
   ·omega
   ·subst h1;rw[if_pos rfl]at hb;rw[if_neg h2,cG k'' _ h2]at hb';have:=(lc b hb).1;have:=(h.new k'' b hb').2;omega
  ·by_cases h2:k''=k
   ·subst h2;rw[if_pos rfl]at hb';rw[if_neg h1,cG k' _ h1]at hb;have:=(lc b hb').1;have:=(h.new k' b hb).2;omega
   ·rw[if_neg h1,cG k' _ h1]at hb;rw[if_neg h2,cG k'' _ h2]at hb';exact h.apart k' k'' b hb hb'
 ·simp only[cY];by_cases bB:k'=k
  ·subst bB;rw[if_pos rfl];exact OI lK
  ·rw[if_neg bB];exact(h.chunk k').keep hle lK (fun b hb=>hx.block b (h.new k' b hb).2) (tP k' bB) (ee k' bB)
theorem RealC.new_box {X:Cfg}{s:FS}{a:Act}{w:World}{c:Cx}(h:RealC X s a w c){k:Nat}(hk:s.heap k= .none)(tQ:¬k < X.m)(T:Nat)(cells:List PV)(vs:List Value)(hr:bG c w cells vs)(h1:∀d∈cells,d.one=true):
 ∃c',RealC X {s with heap:=cE [(k,.box T cells)] s.heap} a (w.alloc (.cells vs.toArray T)) c'∧RepP c' (w.alloc (.cells vs.toArray T)) (.ptr k 0) (.pointer (some ⟨w.heap.size,0,none⟩)):=by
 have bc:=h.chunk k;rw[hk]at bc;cases bc with
 |none xG Sv=>
  have hx:=jg w (.cells vs.toArray T);have cn:(fun k'=>if k'=k then some w.heap.size else c.bl k') k=some w.heap.size:=if_pos rfl;refine⟨{M:=fun b=>c.M b∨b=w.heap.size,bl:=fun k'=>if k'=k then some w.heap.size else c.bl k',ov:=c.ov},?_,.ptr k 0 _ cn⟩;have hle:c.le {M:=fun b=>c.M b∨b=w.heap.size,bl:=fun k'=>if k'=k then some w.heap.size else c.bl k',ov:=c.ov}:=
   ⟨fun k' b hb=>by
    have:k'≠k:=fun e=>by subst e;rw[xG]at hb;cases hb
    show (if k'=k then some w.heap.size else c.bl k')=some b;rw[if_neg this];exact hb,fun _ _ _ h=>h⟩
  refine h.new_chunk hk tQ hx hle (fun k' bB=>if_neg bB) (fun _ _=>rfl) (fun b=>?_) (fun b hb=>?_) (fun lK=>?_)
  ·simp only[Cx.block,if_true,XX.injEq];exact⟨fun h=>h.imp id Eq.symm,fun h=>h.imp id Eq.symm⟩
  ·simp only[Cx.block,if_true,XX.injEq]at hb;rw[size_alloc];omega
  ·exact .box T cells w.heap.size vs cn (jD w _) (hr.keep hle lK) h1
theorem RealC.new_row {X:Cfg}{s:FS}{a:Act}{w w':World}{c:Cx}(h:RealC X s a w c){k:Nat}(hk:s.heap k= .none)(tQ:¬k < X.m)(E sz:Nat)(rows:List (List PV))(v:Value)(xs:List Value)(hx:dw w w')
 (cX:OwnV w' E sz v rows.length xs) (jy:∀b,fm v=some b→w.heap.size≤b) (hr:bG c w rows.flatten xs) (cP:∀r∈rows,r.length=sz) (h1:∀r∈rows,∀d∈r,d.one=true):
 ∃c',RealC X {s with heap:=cE [(k,.row E sz 0 rows)] s.heap} a w' c'∧RepP c' w' (.own k 0) v:=by
 have bc:=h.chunk k;rw[hk]at bc;have AN:v.oneCell'=true:=cX.one;cases bc with
 |none xG Sv=>
  have bF:(fun k' g=>if k'=k∧g=0 then some v else c.ov k' g) k 0=some v:=if_pos ⟨rfl,rfl⟩;have hle:c.le {M:=fun b=>c.M b∨fm v=some b,bl:=c.bl,ov:=fun k' g=>if k'=k∧g=0 then some v else c.ov k' g}:=
   ⟨fun _ _ h=>h,fun k' g u hu=>by
    have:k'≠k:=fun e=>by subst e;rw[Sv]at hu;cases hu
    show (if k'=k∧g=0 then some v else c.ov k' g)=some u;rw[if_neg (fun e=>this e.1)];exact hu⟩
  have cG:∀b,(Cx.block {M:=fun b=>c.M b∨fm v=some b,bl:=c.bl,ov:=fun k' g=>if k'=k∧g=0 then some v else c.ov k' g} k (.row E sz 0 rows)=some b)↔fm v=some b:=by
   intro b;simp[Cx.block]
  refine⟨{M:=fun b=>c.M b∨fm v=some b,bl:=c.bl,ov:=fun k' g=>if k'=k∧g=0 then some v else c.ov k' g},?_,.own k 0 v bF AN⟩;refine h.new_chunk hk tQ hx hle (fun _ _=>rfl) (fun k' bB=>?_) (fun b=>?_) (fun b hb=>?_) (fun lK=>?_)
  ·funext g;exact if_neg (fun e=>bB e.1)
  ·rw[cG b]
  ·rw[cG b]at hb;exact⟨jy b hb,cX.lt hb⟩
  ·refine .row E sz 0 rows v xs bF cX (hr.keep hle lK) cP h1 (fun g' hg=>?_);show (if k=k∧g'=0 then some v else c.ov k g')=none;rw[if_neg (by omega)];exact Sv g'
theorem RealC.turn {X:Cfg}{s:FS}{a:Act}{w w':World}{c c':Cx}(h:RealC X s a w c){k:Nat}{ch:Chunk}(hle:c.le c')(Sw:c'.bl k=c.bl k)(tP:∀k',k'≠k→c'.bl k'=c.bl k')(ee:∀k',k'≠k→c'.ov k'=c.ov k')
 (WH:w'.os=w.os) (ht:w'.tape=w.tape) (ho:w'.output=w.output) (hs:w.heap.size≤w'.heap.size) (E9:∀b,b < w.heap.size→c.block k (s.heap k)≠some b→w'.heap[b]? =w.heap[b]?)
 (hM:∀b,c'.M b↔(c.M b∧c.block k (s.heap k)≠some b)∨c'.block k ch=some b)
 (lc:∀b,c'.block k ch=some b→(c.block k (s.heap k)=some b∨w.heap.size≤b)∧b < w'.heap.size)
 (OI:Keep c.M w c'.M w'→ChunkOK c' w' k ch):RealC X {s with heap:=cE [(k,ch)] s.heap} a w' c':=by
 have own:∀b,c.block k (s.heap k)=some b→c.M b:=fun b hb=>(h.mu b).2 (.inr ⟨k,hb⟩);have lK:Keep c.M w c'.M w':=⟨hs,fun b hb hm=>E9 b hb (fun e=>hm (own b e)),fun b hb hm=>by
  rcases(hM b).1 hm with h1|h1
  ·exact h1.1
  ·rcases(lc b h1).1 with h2|h2
   ·exact own b h2
   ·omega⟩
 have cG:∀k' ch',k'≠k→c'.block k' ch'=c.block k' ch':=by
  intro k' ch' bB;cases ch'<;>simp[Cx.block,tP k' bB,ee k' bB]
 have cY:∀k',cE [(k,ch)] s.heap k'=if k'=k then ch else s.heap k':=fun _=>rfl;have oldNe:∀k' b,k'≠k→c.block k' (s.heap k')=some b→c.block k (s.heap k)≠some b:=fun k' b bB hb e=>bB (h.apart k' k b hb e);refine⟨h.size,h.defers,⟨WH.trans h.ext.os,ht.trans h.ext.tape,ho.trans h.ext.output,Yy h.ext.size hs,fun b hb ML=>?_⟩,h.inv,h.fresh,fun b=>?_,fun k' b hb=>?_,fun k' k'' b hb hb'=>?_,fun t=>(h.env t).keep hle lK,fun k'=>?_,fun k' hk'=>⟨?_,fun g v hv=>hle.ov _ _ _ ((h.lent k' hk').2 g v hv)⟩⟩
 ·refine(E9 b (Yx hb h.ext.size) (fun e=>?_)).trans (h.ext.block b hb ML);rcases(h.new k b e).1 with h1|h1
  ·exact ML h1
  ·omega
 ·rw[hM b];constructor
  ·rintro (⟨h0,bB⟩|h1)
   ·rcases(h.mu b).1 h0 with h0|⟨k',h1⟩
    ·exact .inl h0
    ·refine .inr ⟨k',?_⟩;have hU:k'≠k:=fun e=>by subst e;exact bB h1
     show c'.block k' (cE [(k,ch)] s.heap k')=_;rw[cY,if_neg hU,cG k' _ hU];exact h1
   ·refine .inr ⟨k,?_⟩;show c'.block k (cE [(k,ch)] s.heap k)=_;rw[cY,if_pos rfl];exact h1
  ·rintro (h0|⟨k',h1⟩)
   ·refine .inl ⟨(h.mu b).2 (.inl h0),fun e=>?_⟩;rcases(h.new k b e).1 with h1|h1
    ·exact(h.fresh b h0).2 h1
    ·have:=(h.fresh b h0).1;omega
   ·simp only[cY]at h1;by_cases bB:k'=k
    ·subst bB;rw[if_pos rfl]at h1;exact .inr h1
    ·rw[if_neg bB,cG k' _ bB]at h1;exact .inl ⟨(h.mu b).2 (.inr ⟨k',h1⟩),oldNe k' b bB h1⟩
 ·simp only[cY]at hb;by_cases bB:k'=k
  ·subst bB;rw[if_pos rfl]at hb;refine⟨?_,(lc b hb).2⟩;rcases(lc b hb).1 with h2|h2
   ·exact(h.new _ b h2).1
   ·exact .inr (Yy h.ext.size h2)
  ·rw[if_neg bB,cG k' _ bB]at hb;exact⟨(h.new k' b hb).1,Yx (h.new k' b hb).2 hs⟩
 ·simp only[cY]at hb hb';by_cases h1:k'=k
  ·by_cases h2:k''=k
   ·omega
   ·subst h1;rw[if_pos rfl]at hb;rw[if_neg h2,cG k'' _ h2]at hb';rcases(lc b hb).1 with h3|h3
    ·exact absurd h3 (oldNe k'' b h2 hb')
    ·have:=(h.new k'' b hb').2;omega
  ·by_cases h2:k''=k
   ·subst h2;rw[if_pos rfl]at hb';rw[if_neg h1,cG k' _ h1]at hb;rcases(lc b hb').1 with h3|h3
    ·exact absurd h3 (oldNe k' b h1 hb)
    ·have:=(h.new k' b hb).2;omega
   ·rw[if_neg h1,cG k' _ h1]at hb;rw[if_neg h2,cG k'' _ h2]at hb';exact h.apart k' k'' b hb hb'
 ·simp only[cY];by_cases bB:k'=k
  ·subst bB;rw[if_pos rfl];exact OI lK
  ·rw[if_neg bB];exact(h.chunk k').keep hle lK (fun b hb=>E9 b (h.new k' b hb).2 (oldNe k' b bB hb)) (tP k' bB) (ee k' bB)
 ·by_cases bB:k'=k
  ·subst bB;exact Sw.trans (h.lent k' hk').1
  ·exact(tP k' bB).trans (h.lent k' hk').1
theorem RealC.set_box {X:Cfg}{s:FS}{a:Act}{w:World}{c:Cx}(h:RealC X s a w c){k T b:Nat}{cells cells':List PV}{vs vs':List Value}(hk:s.heap k= .box T cells)(hb:c.bl k=some b)(hh:w.heap[b]? =some (.cells vs.toArray T (0,0)))
 (hr:bG c w cells' vs') (h1:∀d∈cells',d.one=true):RealC X {s with heap:=cE [(k,.box T cells')] s.heap} a (w.setRow b vs'.toArray) c:=by
 have cP:(w.setRow b vs'.toArray).heap.size=w.heap.size:=by simp[ZE]
 have bB:∀b',b'≠b→(w.setRow b vs'.toArray).heap[b']? =w.heap[b']? :=by
  intro b' hb';simp only[ZE,Y9];rw[if_neg (fun e=>hb' e.symm)]
 have cG:c.block k (s.heap k)=some b:=by rw[hk];exact hb
 refine h.turn c.le_refl rfl (fun _ _=>rfl) (fun _ _=>rfl) rfl rfl rfl (by omega) (fun b' _ hb'=>bB b' (fun e=>hb' (by rw[e];exact cG))) (fun b'=>?_) (fun b' hb'=>?_) (fun lK=>?_)
 ·show c.M b'↔(c.M b'∧c.block k (s.heap k)≠some b')∨c.bl k=some b';rw[cG,hb];constructor
  ·intro hm;by_cases e:b=b'
   ·exact .inr (by rw[e])
   ·exact .inl ⟨hm,fun h=>e (XX.inj h)⟩
  ·rintro (⟨hm,_⟩|e)
   ·exact hm
   ·exact(h.mu b').2 (.inr ⟨k,by rw[cG];exact e⟩)
 ·have e:c.bl k=some b':=hb';refine⟨.inl (by rw[cG,←hb];exact e),?_⟩;rw[cP];exact(h.new k b' (by rw[cG,←hb];exact e)).2
 ·exact .box T cells' b vs' hb (setRow_heap w b _ _ T _ hh) (hr.keep c.le_refl lK) h1
structure OneB (w w':World)(r:Option Nat):Prop where
 os:w'.os=w.os
 tape:w'.tape=w.tape
 output:w'.output=w.output
 size:w.heap.size≤w'.heap.size
 block:∀b,b < w.heap.size→r≠some b→w'.heap[b]? =w.heap[b]?
theorem RealC.set_row {X:Cfg}{s:FS}{a:Act}{w w':World}{c:Cx}(h:RealC X s a w c){k E sz g:Nat}{rows rows':List (List PV)}{v v':Value}{xs':List Value}(hk:s.heap k= .row E sz g rows)(hv:c.ov k g=some v)
 (hg:OneB w w' (fm v)) (cX:OwnV w' E sz v' rows'.length xs') (jy:fm v'=fm v∨∀b,fm v'=some b→w.heap.size≤b) (hr:bG c w rows'.flatten xs') (cP:∀r∈rows',r.length=sz)
 (h1:∀r∈rows',∀d∈r,d.one=true):
 ∃c',RealC X {s with heap:=cE [(k,.row E sz (g+1) rows')] s.heap} a w' c'∧RepP c' w' (.own k (g+1)) v':=by
 have bc:=h.chunk k;rw[hk]at bc;have AN:v'.oneCell'=true:=cX.one;cases bc with
 |row _ _ _ _ u xs hu Sx WI Ug WJ MM=>
  rw[hv]at hu;cases hu;have cG:c.block k (s.heap k)=fm v:=by rw[hk];simp[Cx.block,hv]
  have bF:(fun k' g'=>if k'=k∧g'=g+1 then some v' else c.ov k' g') k (g+1)=some v':=if_pos ⟨rfl,rfl⟩;have hle:c.le {M:=fun b=>(c.M b∧fm v≠some b)∨fm v'=some b,bl:=c.bl,ov:=fun k' g'=>if k'=k∧g'=g+1 then some v' else c.ov k' g'}:=
   ⟨fun _ _ h=>h,fun k' g' u hu=>by
    have:¬(k'=k∧g'=g+1):=by
     rintro⟨rfl,rfl⟩;rw[MM (g+1) (by omega)]at hu;cases hu
    show (if k'=k∧g'=g+1 then some v' else c.ov k' g')=some u;rw[if_neg this];exact hu⟩
  have Dj:∀b,(Cx.block {M:=fun b=>(c.M b∧fm v≠some b)∨fm v'=some b,bl:=c.bl,ov:=fun k' g'=>if k'=k∧g'=g+1 then some v' else c.ov k' g'} k (.row E sz (g+1) rows')=some b)↔fm v'=some b:=by
   intro b;simp[Cx.block]
  refine⟨{M:=fun b=>(c.M b∧fm v≠some b)∨fm v'=some b,bl:=c.bl,ov:=fun k' g'=>if k'=k∧g'=g+1 then some v' else c.ov k' g'},?_,.own k (g+1) v' bF AN⟩;refine h.turn hle rfl (fun _ _=>rfl) (fun k' bB=>?_) hg.os hg.tape hg.output hg.size (fun b hb bB=>hg.block b hb (fun e=>bB (by rw[cG];exact e))) (fun b=>?_) (fun b hb=>?_) (fun lK=>?_)
  ·funext g';exact if_neg (fun e=>bB e.1)
  ·rw[Dj,cG]
  ·rw[Dj]at hb;refine⟨?_,cX.lt hb⟩;rw[cG];rcases jy with e|e
   ·exact .inl (e ▸ hb)
   ·exact .inr (e b hb)
  ·refine .row E sz (g+1) rows' v' xs' bF cX (hr.keep hle lK) cP h1 (fun g' hg'=>?_);show (if k=k∧g'=g+1 then some v' else c.ov k g')=none;rw[if_neg (by omega)];exact MM g' (by omega)
theorem RealC.put_row {X:Cfg}{s:FS}{a:Act}{w w':World}{c:Cx}(h:RealC X s a w c){k E sz g:Nat}{rows rows':List (List PV)}{v:Value}{xs':List Value}(hk:s.heap k= .row E sz g rows)(hv:c.ov k g=some v)
 (hg:OneB w w' (fm v)) (cX:OwnV w' E sz v rows'.length xs') (hr:bG c w rows'.flatten xs') (cP:∀r∈rows',r.length=sz) (h1:∀r∈rows',∀d∈r,d.one=true):
 RealC X {s with heap:=cE [(k,.row E sz g rows')] s.heap} a w' c:=by
 have bc:=h.chunk k;rw[hk]at bc;cases bc with
 |row _ _ _ _ u xs hu Sx WI Ug WJ MM=>
  rw[hv]at hu;cases hu;have cG:c.block k (s.heap k)=fm v:=by rw[hk];simp[Cx.block,hv]
  have Dj:c.block k (.row E sz g rows')=fm v:=by simp[Cx.block,hv]
  refine h.turn c.le_refl rfl (fun _ _=>rfl) (fun k' bB=>rfl) hg.os hg.tape hg.output hg.size (fun b hb bB=>hg.block b hb (fun e=>bB (by rw[cG];exact e))) (fun b=>?_) (fun b hb=>?_) (fun lK=>?_)
  ·rw[Dj,cG];constructor
   ·intro hm;by_cases e:fm v=some b
    ·exact .inr e
    ·exact .inl ⟨hm,e⟩
   ·rintro (⟨hm,_⟩|e)
    ·exact hm
    ·exact(h.mu b).2 (.inr ⟨k,by rw[cG];exact e⟩)
  ·rw[Dj]at hb;exact⟨.inl (by rw[cG];exact hb),cX.lt hb⟩
  ·exact .row E sz g rows' v xs' hv cX (hr.keep c.le_refl lK) cP h1 MM
structure TI where
 agg:Bool
 size:Nat
 bytes:Nat
 zero:List Value
 fields:List (Nat × Nat)
 elem:Option Nat
 int:Option IntKind
 kind:Nat
 mp:Option (Nat × Bool)
 arr:Option (Nat × Nat):=none
def lX (P:Program)(fs:List Field):Option (List (Nat × Nat)):=fs.mapM fun f=>(P.info? f.type).map fun i=>(f.offset,i.size)
def qu (P:Program):TypeDesc→List (Nat × Nat)
 | .struct fs=>(lX P fs.toList).getD []
 |_=>[]
def MZ:TypeDesc→Bool
 | .struct _=>true
 | .array _ _=>true
 |_=>false
def gm:TypeDesc→Option Nat
 | .slice e=>some e
 |_=>none
def Jf:TypeDesc→Option (Nat × Nat)
 | .array n e=>some (n,e)
 |_=>none
def M1:TypeDesc→Option IntKind
 | .int k=>some k
 |_=>none
def pr:TypeDesc→Nat
 | .bool=>1
 | .string=>2
 | .pointer _=>3
 | .map _ _=>4
 | .interface _=>5
 |_=>0
def VF (P:Program):TypeDesc→Option (Nat × Bool)
 | .map k e=>match P.underlying k,P.info? k,P.underlying e with
  |some (.int .i64),_,some (.int .i64)=>some (1,false)
  |some (.struct _),some i,some (.int .i64)=>some (i.size,true)
  |_,_,_=>none
 |_=>none
def aT (P:Program)(t:Nat):Option TI:=
 match P.info? t,P.underlying t with
 |some i,some d=>
  match i.zero with
  |some z=>
   if z.cells.all (·.oneCell')&&(z.cells.size==i.size)then
    some {agg:=MZ d,size:=i.size,bytes:=i.bytes,zero:=z.cells.toList,fields:=qu P d,elem:=gm d,int:=M1 d,kind:=pr d,mp:=VF P d,arr:=Jf d}
   else none
  |none=>none
 |_,_=>none
structure TCk (P:Program)(t:Nat)(ti:TI)(i:TypeInfo)(d:TypeDesc)(z:Value):Prop where
 info:P.info? t=some i
 und:P.underlying t=some d
 zero:i.zero=some z
 zcells:z.cells.toList=ti.zero
 one:∀x∈ti.zero,x.oneCell'=true
 zsize:ti.zero.length=ti.size
 size:i.size=ti.size
 bytes:i.bytes=ti.bytes
 agg:MZ d=ti.agg
 elem:gm d=ti.elem
 int:M1 d=ti.int
 kind:pr d=ti.kind
 mp:VF P d=ti.mp
 arr:Jf d=ti.arr
 fields:qu P d=ti.fields
theorem ig {P:Program}{t:Nat}{ti:TI}(h:aT P t=some ti):∃i d z,TCk P t ti i d z:=by
 unfold aT at h;split at h
 ·rename_i i d hi hd;split at h
  ·rename_i z hz;split at h
   ·rename_i hc;simp only[Xy,beq_iff_eq]at hc;cases h;refine⟨i,d,z,hi,hd,hz,rfl,fun x hx=>?_,?_,rfl,rfl,rfl,rfl,rfl,rfl,rfl,rfl,rfl⟩
    ·exact(Array.all_eq_true_iff_forall_mem.1 hc.1) x (by simpa using hx)
    ·simpa using hc.2
   ·cases h
  ·cases h
 ·cases h
theorem xU {P:Program}{off sz:Nat}:∀{l:List Field}{pl:List (Nat × Nat)},lX P l=some pl→∀{f:Nat},pl[f]? =some (off,sz)→∃(g:Field) (j:TypeInfo),l[f]? =some g∧P.info? g.type=some j∧g.offset=off∧j.size=sz
 |[],pl,h,f,hf=>by simp[lX]at h;subst h;simp at hf
 |g::l,pl,h,f,hf=>by
  simp only[lX,List.mapM_cons,Option.bind_eq_bind,Option.pure_def]at h;cases hi:P.info? g.type with
  |none=>simp[hi]at h
  |some i=>
   cases hr:l.mapM (fun f=>(P.info? f.type).map fun i=>(f.offset,i.size))with
   |none=>simp[hi,hr]at h
   |some rest=>
    simp[hi,hr]at h;subst h;cases f with
    |zero=>simp at hf;exact⟨g,i,rfl,hi,hf.1,hf.2⟩
    |succ f=>simpa using xU (l:=l) hr (f:=f) (by simpa using hf)
theorem TCk.field {P:Program}{t:Nat}{ti:TI}{i:TypeInfo}{d:TypeDesc}{z:Value}(h:TCk P t ti i d z){f off sz:Nat}(hf:ti.fields[f]? =some (off,sz)):
 ∃(fs:Array Field) (g:Field) (j:TypeInfo),d= .struct fs∧lX P fs.toList=some ti.fields∧fs[f]? =some g∧P.info? g.type=some j∧g.offset=off∧j.size=sz:=by
 have gS:=h.fields;cases d with
 |struct fs=>
  simp only[qu]at gS;cases hm:lX P fs.toList with
  |none=>rw[hm]at gS;simp at gS;rw[gS]at hf;simp at hf
  |some pl=>
   rw[hm]at gS;simp at gS;subst gS;obtain⟨g,j,q1,q2⟩:=xU hm hf;exact⟨fs,g,j,rfl,hm,by simpa using q1,q2⟩
 |_=>simp[qu]at gS;rw[gS]at hf;simp at hf
def ev (s:FS):Operand→PV
 | .tmp t=>s.env t
 | .const v=> .d (.v v)
 | .func f=> .d (.clo f [])
 | .global _=> .any
theorem bM {X:Cfg}{s:FS}{a:Act}{w:World}{c:Cx}(h:RealC X s a w c)(x:Operand):RepP c w (ev s x) (a.eval x):=by
 cases x with
 |tmp t=>exact h.env t
 |const v=>exact .d _ _ (.v v)
 |func f=>exact .d _ _ (.clo f [] [] rfl (fun j d x h=>by simp at h))
 |«global» g=>exact .any _
theorem zo {ops:Array Oper}{o:Oper}{s s':FS}(he:∀t∈o.looksAt ops,s'.env t=s.env t)(x:Operand)(hx:x∈o.op.operands):ev s' x=ev s x:=by
 cases x with
 |tmp t=>
  refine he t ?_;unfold Oper.looksAt;refine ZP _ ?_;rw[List.mem_filterMap];exact⟨.tmp t,by simpa using hx,rfl⟩
 |_=>rfl
theorem d4 {X:Cfg}{ops:Array Oper}{s:FS}{o:Oper}{r:Res}(hd:∀d,o.dst=some d→d < X.n)(ht:∀kc∈r.eff,kc.1∈r.touch)
 (h:∀s':FS,(∀x∈o.op.operands,ev s' x=ev s x)→(∀k∈r.touch,s'.heap k=s.heap k)→∀a w c,RealC X s' a w c→
  ∃n v w',(execOp a.eval o).run X.P w= .ok n w'∧(n= .value v∨(n= .skip∧v=undef))∧∃c',RealC X {s' with heap:=cE r.eff s'.heap} a w' c'∧RepP c' w' r.pv v):bI X ops s o r:=by
 refine⟨hd,ht,fun s' he hk a w hr K Q hK=>?_⟩;obtain⟨c,hc⟩:=hr;obtain⟨n,v,w',cr,hn,c',hc',hp⟩:=h s' (fun x hx=>zo he x hx) hk a w c hc;have:=hK v w' ⟨c',hc'.put hp hd⟩;unfold Oper.wp;rw[cr];rcases hn with rfl|⟨rfl,rfl⟩
 ·exact this
 ·exact this
theorem aM {X:Cfg}{ops:Array Oper}{s:FS}{o:Oper}{p:PV}{touch:List Nat}(hd:∀d,o.dst=some d→d < X.n)
 (h:∀s':FS,(∀x∈o.op.operands,ev s' x=ev s x)→(∀k∈touch,s'.heap k=s.heap k)→∀a w c,RealC X s' a w c→∃v,(execOp a.eval o).run X.P w= .ok (.value v) w∧RepP c w p v):
 bI X ops s o {pv:=p,touch:=touch}:=
 d4 hd (fun _ h=>by simp at h) fun s' he hk a w c hc=>by
  obtain⟨v,cr,hp⟩:=h s' he hk a w c hc;exact⟨.value v,v,w,cr,.inl rfl,c,hc,hp⟩
section
variable {X:Cfg}{ops:Array Oper}{s:FS}{o:Oper}(hd:∀d,o.dst=some d→d < X.n)
include hd
theorem M3 {x:Operand}(ho:o.op= .move x):bI X ops s o {pv:=ev s x}:=
 aM hd fun s' he _ a w c hc=>⟨a.eval x,by simp[execOp,ho],by rw[←he x (by simp[ho,Op.operands])];exact bM hc x⟩
theorem GK {x:Operand}(ho:o.op= .assign x):bI X ops s o {pv:=ev s x}:=
 aM hd fun s' he _ a w c hc=>⟨a.eval x,by simp[execOp,ho],by rw[←he x (by simp[ho,Op.operands])];exact bM hc x⟩
omit hd in
theorem cZ {s':FS}{a:Act}{w:World}{c:Cx}(hc:RealC X s' a w c){x:Operand}{v:Value}(h:ev s' x= .d (.v v)):a.eval x=v:=by
 have:=bM hc x;rw[h]at this;cases this with
 |d _ _ h=>cases h with|v=>rfl
theorem M4 {x y z:Operand}{t:Bool}(ho:o.op= .pick x y z)(hx:ev s x= .d (.v (.bool t))):bI X ops s o {pv:=if t then ev s y else ev s z}:=
 aM hd fun s' he _ a w c hc=>by
  have h1:=cZ hc ((he x (by simp[ho,Op.operands])).trans hx);refine⟨if t then a.eval y else a.eval z,by simp[execOp,ho,h1,asBool],?_⟩;cases t with
  |true=>rw[if_pos rfl,if_pos rfl,←he y (by simp[ho,Op.operands])];exact bM hc y
  |false=>rw[if_neg (by simp),if_neg (by simp),←he z (by simp[ho,Op.operands])];exact bM hc z
theorem PN {t:Nat}{x:Operand}{b:Bool}(ho:o.op= .unOp .not t x)(hx:ev s x= .d (.v (.bool b))):bI X ops s o {pv:= .d (.v (.bool (!b)))}:=
 aM hd fun s' he _ a w c hc=>by
  have h1:=cZ hc ((he x (by simp[ho,Op.operands])).trans hx);exact⟨.bool (!b),by simp[execOp,ho,h1,Op.unary],.d _ _ (.v _)⟩
theorem PO {t:Nat}{x:Operand}{k:IntKind}{n:Int}(ho:o.op= .unOp .neg t x)(hx:ev s x= .d (.v (.int k n))):bI X ops s o {pv:= .d (.v (.int k (k.wrap (0 - n))))}:=
 aM hd fun s' he _ a w c hc=>by
  have h1:=cZ hc ((he x (by simp[ho,Op.operands])).trans hx);exact⟨.int k (k.wrap (0 - n)),by simp[execOp,ho,h1,Op.unary,Op.intArith],.d _ _ (.v _)⟩
theorem tb {x:Operand}(ho:o.op= .nilCheck x)(hx:(∃k off,ev s x= .ptr k off)∨∃cs,ev s x= .d (.ept cs)):bI X ops s o {pv:=ev s x}:=
 aM hd fun s' he _ a w c hc=>by
  have h0:=he x (by simp[ho,Op.operands]);have h1:=bM hc x;refine⟨a.eval x,?_,by rw[←h0];exact h1⟩;have:∃ad,a.eval x= .pointer (some ad):=by
   rcases hx with⟨k,off,hx⟩|⟨cs,hx⟩
   ·rw[h0,hx]at h1;generalize a.eval x=u at h1;cases h1;exact⟨_,rfl⟩
   ·rw[h0,hx]at h1;generalize a.eval x=u at h1;cases h1 with
    |d _ _ h=>cases h;exact⟨_,rfl⟩
  obtain⟨ad,h2⟩:=this;simp[execOp,ho,h2]
def zp (op:BinOp)(k:IntKind)(a b:Int):Option Value:=
 match op with
 | .add=>some (.int k (k.wrap (a+b)))
 | .sub=>some (.int k (k.wrap (a - b)))
 | .mul=>some (.int k (k.wrap (a*b)))
 | .eql=>some (.bool (a==b))
 | .neq=>some (.bool (a !=b))
 | .lss=>some (.bool (decide (a < b)))
 | .leq=>some (.bool (decide (a≤b)))
 | .gtr=>some (.bool (decide (a>b)))
 | .geq=>some (.bool (decide (a≥b)))
 | .shl=>if 0≤b then some (.int k (k.wrap (a*2 ^ min b.toNat k.bits)))else none
 | .shr=>if 0≤b then some (.int k (a.fdiv (2 ^ min b.toNat k.bits)))else none
 | .and=>some (.int k (k.wrap (BitVec.ofInt k.bits a&&& BitVec.ofInt k.bits b).toNat))
 | .or=>some (.int k (k.wrap (BitVec.ofInt k.bits a|||BitVec.ofInt k.bits b).toNat))
 | .andNot=>some (.int k (k.wrap (BitVec.ofInt k.bits a&&& ~~~BitVec.ofInt k.bits b).toNat))
 |_=>none
theorem PP {op:BinOp}{t t':Nat}{x y:Operand}{k:IntKind}{m n:Int}{r:Value}(ho:o.op= .binOp op t x y t')(hx:ev s x= .d (.v (.int k m)))(hy:ev s y= .d (.v (.int k n)))(hr:zp op k m n=some r):
 bI X ops s o {pv:= .d (.v r)}:=
 aM hd fun s' he _ a w c hc=>by
  have h1:=cZ hc ((he x (by simp[ho,Op.operands])).trans hx);have h2:=cZ hc ((he y (by simp[ho,Op.operands])).trans hy);refine⟨r,?_,.d _ _ (.v _)⟩;cases op<;>simp[zp]at hr
  case shl=>obtain⟨h0,rfl⟩:=hr;simp[execOp,ho,h1,h2,eqGuard,binOp,Op.shift,Int.not_lt.2 h0]
  case shr=>obtain⟨h0,rfl⟩:=hr;simp[execOp,ho,h1,h2,eqGuard,binOp,Op.shift,Int.not_lt.2 h0]
  all_goals(subst hr;simp[execOp,ho,h1,h2,eqGuard,binOp,Op.intArith,Op.intCmp,Op.intBits])
theorem xV {op:BinOp}{t t':Nat}{x y:Operand}{k:IntKind}{m n:Int}(ho:o.op= .binOp op t x y t')(hx:ev s x= .d (.v (.int k m)))(hy:ev s y= .d (.v (.int k n)))(hn:n≠0){r:Value}
 (hr:(op= .quo∧r= .int k (k.wrap (m.tdiv n)))∨(op= .rem∧r= .int k (m.tmod n))):bI X ops s o {pv:= .d (.v r)}:=
 aM hd fun s' he _ a w c hc=>by
  have h1:=cZ hc ((he x (by simp[ho,Op.operands])).trans hx);have h2:=cZ hc ((he y (by simp[ho,Op.operands])).trans hy);refine⟨r,?_,.d _ _ (.v _)⟩;rcases hr with⟨rfl,rfl⟩|⟨rfl,rfl⟩<;>simp[execOp,ho,h1,h2,eqGuard,binOp,Op.intDiv,hn]
omit hd in
theorem uE {P:Program}{t:Nat}(h:P.underlying t=some .bool)(m n:Bool)(w:World):(Op.equal t (.bool m) (.bool n)).run P w= .ok (m==n) w:=by
 unfold Op.equal;show (Op.equalIn (9999+1) t (.bool m) (.bool n)).run P w=_;rw[Op.equalIn,Sem.run_bind,run_underlying h];rfl
theorem xW {ti:TI}{op:BinOp}{t t':Nat}{x y:Operand}{m n:Bool}{r:Bool}(ho:o.op= .binOp op t x y t')(ht:aT X.P t=some ti)(hb:ti.kind=1)(hx:ev s x= .d (.v (.bool m)))(hy:ev s y= .d (.v (.bool n)))(hr:(op= .eql∧r=(m==n))∨(op= .neq∧r=(m !=n))):
 bI X ops s o {pv:= .d (.v (.bool r))}:=
 aM hd fun s' he _ a w c hc=>by
  have h1:=cZ hc ((he x (by simp[ho,Op.operands])).trans hx);have h2:=cZ hc ((he y (by simp[ho,Op.operands])).trans hy);obtain⟨i,d,z,tk⟩:=ig ht;have hd':d= .bool:=by
   have:=tk.kind;rw[hb]at this;cases d<;>simp[pr]at this;rfl
  subst hd';refine⟨.bool r,?_,.d _ _ (.v _)⟩;rcases hr with⟨rfl,rfl⟩|⟨rfl,rfl⟩<;>simp[execOp,ho,h1,h2,eqGuard,binOp,uE tk.und,bne]
def AR (P:Program)(t n:Nat):Prop:=∀(w:World) (xs ys:List Int) (x y:Operand) (op:BinOp),xs.length=n→ys.length=n→op= .eql∨op= .neq→
 (do eqGuard op t x y (.agg (xs.map (Value.int .i64)).toArray) (.agg (ys.map (Value.int .i64)).toArray);binOp op t (.agg (xs.map (Value.int .i64)).toArray) (.agg (ys.map (Value.int .i64)).toArray):Sem Value).run P w= .ok (.bool (if op= .eql then xs==ys else xs !=ys)) w
def pt:List D→Option (List Int)
 |[]=>some []
 | .v (.int .i64 n)::l=>(pt l).map (n:: ·)
 |_=>none
omit hd in
theorem qv {M:Nat→Prop}{w:World}:∀{ds:List D}{vs:List Value}{xs:List Int},dZ M w ds vs→pt ds=some xs→vs=xs.map (Value.int .i64)
 |[],[],xs,_,h=>by cases h;rfl
 |[],_::_,xs,h,_=>by have:=h.1;simp at this
 |d::ds,[],xs,h,_=>by have:=h.1;simp at this
 |d::ds,v::vs,xs,h,hx=>by
  have h0:=h.2 0 d v rfl rfl;have hr:dZ M w ds vs:=⟨by simpa using h.1,fun j a b h1 h2=>h.2 (j+1) a b (by simpa using h1) (by simpa using h2)⟩;unfold pt at hx;split at hx
  ·rename_i heq;cases heq
  ·rename_i n l heq;cases heq;cases h0;cases hl:pt ds with
   |none=>rw[hl]at hx;cases hx
   |some ys=>
    rw[hl]at hx;cases hx;rw[qv hr hl];rfl
  ·cases hx
theorem AS {op:BinOp}{t t' n:Nat}{x y:Operand}{ds es:List D}{xs ys:List Int}(ho:o.op= .binOp op t x y t')(hq:AR X.P t n)(lQ:op= .eql∨op= .neq)(hx:ev s x= .d (.agg ds))(hy:ev s y= .d (.agg es))
 (h1:pt ds=some xs) (h2:pt es=some ys) (h3:xs.length=n) (h4:ys.length=n):bI X ops s o {pv:= .d (.v (.bool (if op= .eql then xs==ys else xs !=ys)))}:=
 aM hd fun s' he _ a w c hc=>by
  have e1:=bM hc x;have e2:=bM hc y;rw[he x (by simp[ho,Op.operands]),hx]at e1;rw[he y (by simp[ho,Op.operands]),hy]at e2;refine⟨_,?_,.d _ _ (.v _)⟩;generalize hu:a.eval x=u at e1;generalize hv:a.eval y=v at e2;cases e1 with
  |d _ _ e1=>
   cases e2 with
   |d _ _ e2=>
    cases e1 with
    |agg _ vs hl _ bA=>
     cases e2 with
     |agg _ vs' hl' _ oI=>
      have g1:=qv (xs:=xs) ⟨hl,bA⟩ h1;have g2:=qv (xs:=ys) ⟨hl',oI⟩ h2;subst g1;subst g2;have:=hq w xs ys x y op h3 h4 lQ;simp only[execOp,ho,hu,hv];rw[Sem.run_bind,this];rfl
theorem Jg {t f off sz:Nat}{x:Operand}{ds:List D}{ti:TI}(ho:o.op= .fieldAddr t x f)(ht:aT X.P t=some ti)(hf:ti.fields[f]? =some (off,sz))(hs:sz≠0)(hx:ev s x= .d (.ept ds)):
 bI X ops s o {pv:= .d (.ept (ds.drop off))}:=
 aM hd fun s' he _ a w c hc=>by
  have e1:=bM hc x;rw[he x (by simp[ho,Op.operands]),hx]at e1;generalize hu:a.eval x=u at e1;cases e1 with
  |d _ _ e1=>
   cases e1 with
   |ept _ b o' fv hM hb h1 dy bA=>
    have cr:((execOp a.eval o).run X.P w)= .ok (.value (.pointer (some ⟨b,o'+off,none⟩))) w:=by
     obtain⟨i,d,z,tk⟩:=ig ht;obtain⟨fs,g,j,rfl,-,q1,q2,q3,q4⟩:=tk.field hf;have MN:j.size≠0:=by omega
     simp[execOp,ho,hu,Instr.fieldAt,run_underlying tk.und,q1,Instr.sureAddr,fieldPlace,sizeOf,typeInfo,q2,MN,q3,Addr.add_lit]
    refine⟨_,cr,.d _ _ (.ept _ b (o'+off) (fun j=>fv (off+j)) hM hb (fun d hd=>h1 d (Yd hd)) (fun j hj=>?_) (fun j d hj=>?_))⟩
    ·rw[ZF];exact dy (off+j) (by rw[XI]at hj;omega)
    ·exact bA (off+j) d (by rwa [Yk]at hj)
end
def ay {α:Type}(l:List α)(off:Nat)(xs:List α):List α:=l.take off++xs++l.drop (off+xs.length)
theorem ip {α:Type}{l xs:List α}{off:Nat}(h:off+xs.length≤l.length)(k:Nat):(ay l off xs)[k]? =if off≤k∧k < off+xs.length then xs[k - off]? else l[k]? :=by
 unfold ay;have h1:(l.take off).length=off:=by rw[Xp];omega
 by_cases hk:k < off
 ·rw[X3,X4 (by omega),if_neg (by omega),XS hk]
 ·by_cases iV:k < off+xs.length
  ·rw[X3,XK (by omega),h1,X4 (by omega),if_pos (by omega)]
  ·rw[XK (by rw[XY,h1];omega),XY,h1,Yk,if_neg (by omega)];congr 1;omega
theorem bj {α:Type}{l xs:List α}{off:Nat}(h:off+xs.length≤l.length):(ay l off xs).length=l.length:=by
 simp only[ay,XY,Xp,XI];omega
def oN (off:Nat)(l:List Value)(i:Nat)(cs:Array Value):Array Value:=(l.zipIdx i).foldl (fun cs (c,j)=>cs.setIfInBounds (off+j) c) cs
theorem tg (off:Nat):∀(l:List Value) (i:Nat) (cs:Array Value) (k:Nat),off+i+l.length≤cs.size→(oN off l i cs)[k]? =if off+i≤k∧k < off+i+l.length then l[k - (off+i)]? else cs[k]?
 |[],i,cs,k,_=>by rw[if_neg (by simp)];rfl
 |v::l,i,cs,k,h=>by
  have h':off+i < cs.size:=by simp at h;omega
  have:=tg off l (i+1) (cs.setIfInBounds (off+i) v) k (by simp at h ⊢;omega);have e:oN off (v::l) i cs=oN off l (i+1) (cs.setIfInBounds (off+i) v):=by simp[oN,List.zipIdx_cons]
  rw[e,this];by_cases hk:k=off+i
  ·subst hk;rw[if_neg (by omega),if_pos ⟨XB _,by simp⟩];simp[h']
  ·rw[S' (fun e=>hk e.symm)];by_cases iV:off+(i+1)≤k∧k < off+(i+1)+l.length
   ·rw[if_pos iV,if_pos ⟨by omega,by simp;omega⟩];rw[show k - (off+i)=(k - (off+(i+1)))+1 by omega,Yw]
   ·rw[if_neg iV,if_neg (by simp;omega)]
theorem zq (off:Nat)(l:List Value)(cs:Array Value)(h:off+l.length≤cs.size):(oN off l 0 cs).toList=ay cs.toList off l:=by
 apply Yj;intro k;rw[ip (by simpa using h),X6,tg off l 0 cs k (by simpa using h)];simp
theorem xX (place:Nat→Option (Nat × Nat))(cells:Array Value)(i off size:Nat)(v:Value)(rest:List (Nat × Value))(hp:place i=some (off,size))(hs:v.cells.size=size)(ho:off+size≤cells.size):
 Instr.fill place cells ((i,v)::rest)=Instr.fill place (ay cells.toList off v.cells.toList).toArray rest:=by
 have e:(v.cells.zipIdx.foldl (fun cs (c,j)=>cs.setIfInBounds (off+j) c) cells)=(ay cells.toList off v.cells.toList).toArray:=by
  have h1:=zq off v.cells.toList cells (by simp;omega);rw[←h1,V'];unfold oN;rw[←Array.foldl_toList,Array.toList_zipIdx]
 rw[Instr.fill];simp only[hp];rw[if_neg (by simp[hs];omega),e]
def cR:PV→List PV
 | .d (.agg ds)=>ds.map .d
 | .agg ps=>ps
 |p=>[p]
def xY:PV→Bool
 | .d (.agg _)=>true
 | .agg _=>true
 |p=>p.one
theorem bG.one {c:Cx}{w:World}{ds:List PV}{vs:List Value}(h:bG c w ds vs)(h1:∀d∈ds,d.one=true):∀x∈vs,x.oneCell'=true:=by
 intro x hx;obtain⟨j,hj,e⟩:=Yb hx;have hj':j < ds.length:=by rw[h.1];exact hj
 exact(h.2 j ds[j] x (Xk hj') (by rw[←e];exact Xk hj)).one (h1 _ (Ym hj'))
theorem dZ.one {M:Nat→Prop}{w:World}{ds:List D}{vs:List Value}(h:dZ M w ds vs)(h1:∀d∈ds,d.one=true):∀x∈vs,x.oneCell'=true:=by
 intro x hx;obtain⟨j,hj,e⟩:=Yb hx;have hj':j < ds.length:=by rw[h.1];exact hj
 exact(h.2 j ds[j] x (Xk hj') (by rw[←e];exact Xk hj)).one (h1 _ (Ym hj'))
theorem GL {v:Value}(h:v.oneCell'=true):v.cells=#[v]:=by
 cases v<;>first|rfl|cases h
theorem kr {c:Cx}{w:World}{p:PV}{v:Value}(h:RepP c w p v)(bF:xY p=true):bG c w (cR p) v.cells.toList∧∀d∈cR p,d.one=true:=by
 have single:p.one=true→cR p=[p]→bG c w (cR p) v.cells.toList∧∀d∈cR p,d.one=true:=by
  intro h1 e;rw[e,GL (h.one h1)];refine⟨⟨rfl,fun j d x hj hx=>?_⟩,fun d hd=>by simp at hd;subst hd;exact h1⟩;cases j with
  |zero=>simp at hj hx;subst hj;subst hx;exact h
  |succ j=>simp at hj
 cases p with
 |d x=>
  cases x with
  |agg ds=>
   cases h with
   |d _ _ h=>
    cases h with
    |agg _ vs hl h1 bA=>
     refine⟨⟨by simpa[cR,Value.cells]using hl,fun j d x hj hx=>?_⟩,fun d hd=>?_⟩
     ·simp only[cR,Xz,XO]at hj;obtain⟨y,hy,rfl⟩:=hj;exact .d _ _ (bA j y x hy (by simpa[Value.cells]using hx))
     ·simp only[cR,XQ]at hd;obtain⟨y,hy,rfl⟩:=hd;exact h1 y hy
  |tup ds=>simp[xY,PV.one,D.one]at bF
  |_=>exact single bF rfl
 |any=>simp[xY,PV.one]at bF
 |tup=>simp[xY,PV.one]at bF
 |agg ps=>
  cases h with
  |agg _ vs hl h1 bA=>exact⟨⟨by simpa[cR,Value.cells]using hl,fun j d x hj hx=>bA j d x hj (by simpa[Value.cells]using hx)⟩,h1⟩
 |_=>exact single bF rfl
theorem lY {c:Cx}{w:World}{ds es:List PV}{vs us:List Value}{off:Nat}(h:bG c w ds vs)(g:bG c w es us)(ho:off+es.length≤ds.length):bG c w (ay ds off es) (ay vs off us):=by
 have ho':off+us.length≤vs.length:=by rw[←g.1,←h.1];exact ho
 refine⟨by rw[bj ho,bj ho',h.1],fun j d x hj hx=>?_⟩;rw[ip ho]at hj;rw[ip ho',←g.1]at hx;by_cases hc:off≤j∧j < off+es.length
 ·rw[if_pos hc]at hj hx;exact g.2 _ d x hj hx
 ·rw[if_neg hc]at hj hx;exact h.2 _ d x hj hx
theorem ku {α:Type}{l xs:List α}{off:Nat}{d:α}(h:d∈ay l off xs):d∈l∨d∈xs:=by
 simp only[ay,X2]at h;rcases h with (h|h)|h
 ·exact .inl (Yg h)
 ·exact .inr h
 ·exact .inl (Yd h)
theorem Fr {M:Nat→Prop}{w:World}(vs:List Value):dZ M w (vs.map .v) vs:=⟨by simp,fun j d x hj hx=>by
 simp only[Xz,hx,Ye,XX.injEq]at hj;subst hj;exact .v x⟩
theorem qw {c:Cx}{w:World}{ds:List D}{vs:List Value}(h:dZ c.M w ds vs):bG c w (ds.map .d) vs:=⟨by simpa using h.1,fun j d x hj hx=>by
 simp only[Xz,XO]at hj;obtain⟨y,hy,rfl⟩:=hj;exact .d _ _ (h.2 j y x hy hx)⟩
def uF:List PV→Option (List D)
 |[]=>some []
 | .d x::l=>(uF l).map (x:: ·)
 |_=>none
theorem qx:∀{l:List PV}{ds:List D},uF l=some ds→l=ds.map .d
 |[],ds,h=>by simp[uF]at h;subst h;rfl
 |p::l,ds,h=>by
  unfold uF at h;split at h
  ·rename_i heq;cases heq
  ·rename_i x l' heq;cases heq;cases hl:uF l with
   |none=>rw[hl]at h;cases h
   |some es=>
    rw[hl]at h;cases h;rw[qx hl];rfl
  ·cases h
def rU (l:List PV):PV:=match uF l with|some ds=> .d (.agg ds)|none=> .agg l
def Jh (l:List PV):PV:=match uF l with|some ds=> .d (.tup ds)|none=> .tup l
theorem AT {c:Cx}{w:World}{ds:List D}{vs:List Value}(h:bG c w (ds.map .d) vs):dZ c.M w ds vs:=⟨by simpa using h.1,fun j d x hj hx=>by
 have:=h.2 j (.d d) x (by rw[Xz,hj];rfl) hx;cases this with|d _ _ h=>exact h⟩
theorem qy {c:Cx}{w:World}{l:List PV}{vs:List Value}(h:bG c w l vs)(h1:∀d∈l,d.one=true):RepP c w (rU l) (.agg vs.toArray):=by
 unfold rU;split
 ·rename_i ds ft;have e:=qx ft;subst e;have:=AT h;exact .d _ _ (.agg ds vs this.1 (fun d hd=>h1 (.d d) (Y8 hd)) this.2)
 ·exact .agg l vs h.1 h1 h.2
theorem Ji {c:Cx}{w:World}{l:List PV}{vs:List Value}(h:bG c w l vs):RepP c w (Jh l) (.tuple vs.toArray):=by
 unfold Jh;split
 ·rename_i ds ft;have e:=qx ft;subst e;have:=AT h;exact .d _ _ (.tup ds vs this.1 this.2)
 ·exact .tup l vs h.1 h.2
def pu {α:Type}(pl:List (Nat × Nat)):List α→List (Nat × List α)→Option (List α)
 |cells,[]=>some cells
 |cells,(i,xs)::rest=>
  match pl[i]? with
  |none=>none
  |some (off,size)=>if xs.length=size∧off+size≤cells.length then pu pl (ay cells off xs) rest else none
theorem AU {c:Cx}{w:World}(pl:List (Nat × Nat))(place:Nat→Option (Nat × Nat))(iG:∀i p,pl[i]? =some p→place i=some p):∀(pd:List (Nat × List PV)) (pv:List (Nat × Value)) (cells:List PV) (vs:List Value) (out:List PV),bG c w cells vs→
 pd.map (·.1)=pv.map (·.1)→(∀(j:Nat) (d:Nat × List PV) (x:Nat × Value),pd[j]? =some d→pv[j]? =some x→bG c w d.2 x.2.cells.toList)→pu pl cells pd=some out→(∀d∈cells,d.one=true)→(∀q∈pd,∀d∈q.2,d.one=true)→
 ∃vs':List Value,Instr.fill place vs.toArray pv=some vs'.toArray∧bG c w out vs'∧(∀d∈out,d.one=true)∧out.length=cells.length
 |[],[],cells,vs,out,h,_,_,hf,h1,_=>by
  simp[pu]at hf;subst hf;exact⟨vs,rfl,h,h1,rfl⟩
 |[],_::_,_,_,_,_,hm,_,_,_,_=>by simp at hm
 |_::_,[],_,_,_,_,hm,_,_,_,_=>by simp at hm
 |(i,xs)::pd,(i',v)::pv,cells,vs,out,h,hm,hr,hf,h1,h2=>by
  simp only[Xm,List.cons.injEq]at hm;obtain⟨rfl,hm⟩:=hm;have hx:=hr 0 (i,xs) (i,v) rfl rfl;unfold pu at hf;split at hf
  ·cases hf
  ·rename_i off size hp;split at hf
   ·rename_i hc;have Dk:v.cells.size=size:=by have:=hx.1;simp at this;omega
    have bT:off+xs.length≤cells.length:=by omega
    rw[xX place vs.toArray i off size v pv (iG i _ hp) Dk (by have:=h.1;simp;omega)];obtain⟨vs',q1,q2,q3,q4⟩:=AU pl place iG pd pv (ay cells off xs) (ay vs off v.cells.toList) out (lY h hx bT) hm (fun j d x hj hx=>hr (j+1) d x (by simpa using hj) (by simpa using hx)) hf
     (fun d hd=>(ku hd).elim (h1 d) (h2 (i,xs) (by simp) d)) (fun q hq=>h2 q (by simp[hq]))
    exact⟨vs',q1,q2,q3,by rw[q4,bj bT]⟩
   ·cases hf
theorem co {c:Cx}{w:World}{d:D}{v:Value}(h:RepP c w (.d d) v):RepD c.M w d v:=by
 cases h with|d _ _ h=>exact h
theorem cB {α:Type}{sz:Nat}:∀{rows:List (List α)},(∀r∈rows,r.length=sz)→∀i j,j < sz→rows.flatten[i*sz+j]? =(rows[i]?).bind (·[j]?)
 |[],_,i,j,_=>by simp
 |r::rows,h,0,j,hj=>by
  rw[YU,X4 (by rw[h r (by simp)];omega)];simp
 |r::rows,h,i+1,j,hj=>by
  have hr:=h r (by simp);rw[YU,XK (by rw[hr,YY];omega),hr,show (i+1)*sz+j - sz=i*sz+j by rw[YY];omega,cB (fun r hr=>h r (by simp[hr])) i j hj];simp
section
variable {X:Cfg}{ops:Array Oper}{s:FS}{o:Oper}(hd:∀d,o.dst=some d→d < X.n)
include hd
theorem AV {t f off sz k o':Nat}{x:Operand}{ti:TI}(ho:o.op= .fieldAddr t x f)(ht:aT X.P t=some ti)(hf:ti.fields[f]? =some (off,sz))(hs:sz≠0)(hx:ev s x= .ptr k o'):
 bI X ops s o {pv:= .ptr k (o'+off)}:=
 aM hd fun s' he _ a w c hc=>by
  have e1:=bM hc x;rw[he x (by simp[ho,Op.operands]),hx]at e1;generalize hu:a.eval x=u at e1;cases e1 with
  |ptr _ _ b hb=>
   obtain⟨i,d,z,tk⟩:=ig ht;obtain⟨fs,g,j,rfl,-,q1,q2,q3,q4⟩:=tk.field hf;have MN:j.size≠0:=by omega
   exact⟨.pointer (some ⟨b,o'+off,none⟩),by simp[execOp,ho,hu,Instr.fieldAt,run_underlying tk.und,q1,Instr.sureAddr,fieldPlace,sizeOf,typeInfo,q2,MN,q3,Addr.add_lit],.ptr k _ b hb⟩
omit hd in
theorem mL {P:Program}{t:Nat}{ti:TI}(ht:aT P t=some ti)(w:World)(b off:Nat)(cs:List Value)(hl:cs.length=ti.size)(fl:∀j v,cs[j]? =some v→w.cell? ⟨b,off+j,none⟩=some v)(h0:ti.agg=false→∃v,cs=[v]):
 (Instr.loadAt t (.pointer (some ⟨b,off,none⟩))).run P w= .ok (if ti.agg then .agg cs.toArray else cs.headD undef) w:=by
 obtain⟨i,d,z,tk⟩:=ig ht;have IG:(isAgg t).run P w= .ok ti.agg w:=by
  unfold isAgg;rw[Sem.run_bind,run_underlying tk.und w,←tk.agg];cases d<;>simp[MZ]
 have dy:∀j v,cs[j]? =some v→w.cell? ((⟨b,off,none⟩:Addr).add j)=some v:=fun j v hv=>by rw[Addr.add_lit];exact fl j v hv
 cases hg:ti.agg with
 |true=>
  have hl':=run_loadCells_list (P:=P) w ⟨b,off,none⟩ cs dy;rw[hl,←tk.size]at hl';rw[hg]at IG;simp[Instr.loadAt,Instr.sureAddr,loadVar,Sem.run_bind,IG,sizeOf,typeInfo,tk.info,hl']
 |false=>
  obtain⟨v,rfl⟩:=h0 hg;rw[hg]at IG;have:=fl 0 v rfl;simp only[XW]at this;simp[Instr.loadAt,Instr.sureAddr,loadVar,Sem.run_bind,IG,this]
theorem AW {t:Nat}{x:Operand}{ti:TI}{ds:List D}{p:D}(ho:o.op= .load t x)(ht:aT X.P t=some ti)(hx:ev s x= .d (.ept ds))(cP:ti.size≤ds.length)(hp:(ti.agg=true∧p= .agg (ds.take ti.size))∨(ti.agg=false∧ti.size=1∧ds[0]? =some p)):
 bI X ops s o {pv:= .d p}:=
 aM hd fun s' he _ a w c hc=>by
  have e1:=bM hc x;rw[he x (by simp[ho,Op.operands]),hx]at e1;generalize hu:a.eval x=u at e1;cases e1 with
  |d _ _ e1=>
   cases e1 with
   |ept _ b off f hM hb h1 dy bA=>
    have cr:=mL ht w b off ((X5 ti.size).map f) (by simp) (fun j v hj=>by
     simp only[Xz,XO]at hj;obtain⟨y,hy,rfl⟩:=hj;have:=ZU (n:=ti.size) (i:=j);have hj':j < ti.size:=by
      rcases XP j ti.size with h|h
      ·exact h
      ·rw[XT (by simpa using h)]at hy;cases hy
     rw[ZU hj']at hy;cases hy;exact dy j (by omega))
    rcases hp with⟨o8,rfl⟩|⟨o8,lh,hp⟩
    ·refine⟨.agg ((X5 ti.size).map f).toArray,?_,.d _ _ (.agg _ _ (by simp;omega) (fun d hd=>h1 d (Yg hd)) (fun j d v hj hv=>?_))⟩
     ·have:=cr (fun h=>by rw[o8]at h;cases h);rw[o8,if_pos rfl]at this;simp only[execOp,ho,hu];rw[Sem.run_bind,this];rfl
     ·rw[Zj]at hj;split at hj
      ·rename_i hlt;simp only[Xz,ZU hlt,Ye,XX.injEq]at hv;subst hv;exact bA j d hj
      ·cases hj
    ·refine⟨f 0,?_,.d _ _ (bA 0 p hp)⟩;have:=cr (fun _=>⟨f 0,by rw[lh];rfl⟩);rw[o8,lh]at this;simp only[execOp,ho,hu];rw[Sem.run_bind,this];rfl
omit hd in
theorem eF {α:Type}{l:List α}{off n j:Nat}{x:α}(h:((l.drop off).take n)[j]? =some x):j < n∧l[off+j]? =some x:=by
 rw[Zj]at h;split at h
 ·rename_i hlt;rw[Yk]at h;exact⟨hlt,h⟩
 ·cases h
omit hd in
theorem bG.part {c:Cx}{w:World}{l:List PV}{vs:List Value}(h:bG c w l vs)(off n:Nat):bG c w ((l.drop off).take n) ((vs.drop off).take n):=
 ⟨by rw[Xp,Xp,XI,XI,h.1],fun j d x hj hx=>h.2 _ d x (eF hj).2 (eF hx).2⟩
theorem AX {t k off T:Nat}{x:Operand}{ti:TI}{cells:List PV}{p:PV}(ho:o.op= .load t x)(ht:aT X.P t=some ti)(hx:ev s x= .ptr k off)(hk:s.heap k= .box T cells)(cP:off+ti.size≤cells.length)
 (hp:(ti.agg=true∧p=rU ((cells.drop off).take ti.size))∨(ti.agg=false∧ti.size=1∧cells[off]? =some p)):bI X ops s o {pv:=p,touch:=[k]}:=
 aM hd fun s' he hU a w c hc=>by
  have e1:=bM hc x;rw[he x (by simp[ho,Op.operands]),hx]at e1;generalize hu:a.eval x=u at e1;have bc:=hc.chunk k;rw[hU k (by simp),hk]at bc;cases e1 with
  |ptr _ _ b hb=>
   cases bc with
   |box _ _ b' vs hb' hh hr h1=>
    rw[hb]at hb';cases hb';have Pu:vs.length=cells.length:=hr.1.symm;have cr:=mL ht w b off ((vs.drop off).take ti.size) (by rw[Xp,XI];omega) (fun j v hj=>by
     simp[YS,hh,(eF hj).2])
    rcases hp with⟨o8,rfl⟩|⟨o8,lh,hp⟩
    ·refine⟨.agg ((vs.drop off).take ti.size).toArray,?_,qy (hr.part off ti.size) (fun d hd=>h1 d (Yd (Yg hd)))⟩;have:=cr (fun h=>by rw[o8]at h;cases h);rw[o8,if_pos rfl]at this;simp only[execOp,ho,hu];rw[Sem.run_bind,this];rfl
    ·obtain⟨v,hv⟩:∃v,vs[off]? =some v:=⟨vs[off]'(by omega),Xk _⟩;have eP:(vs.drop off).take ti.size=[v]:=by
      rw[lh,YQ (by omega)];simp only[ZC,Z4];rw[Xk (by omega)]at hv;simpa using hv
     refine⟨v,?_,hr.2 off p v hp hv⟩;have:=cr (fun _=>⟨v,eP⟩);rw[o8,eP]at this;simp only[execOp,ho,hu];rw[Sem.run_bind,this];rfl
theorem Jj {t e sz:Nat}{x y:Operand}{ti te:TI}{rows:List (List D)}{row:List D}{kd:IntKind}{n:Int}(ho:o.op= .indexAddr t x y)(ht:aT X.P t=some ti)(he':ti.elem=some e)(gL:aT X.P e=some te)(cP:te.size=sz)
 (hx:ev s x= .d (.sl sz rows)) (hy:ev s y= .d (.v (.int kd n))) (hn:0≤n) (bY:rows[n.toNat]? =some row):bI X ops s o {pv:= .d (.ept row)}:=
 aM hd fun s' he _ a w c hc=>by
  have e1:=bM hc x;rw[he x (by simp[ho,Op.operands]),hx]at e1;have e2:=cZ hc ((he y (by simp[ho,Op.operands])).trans hy);generalize hu:a.eval x=u at e1;have hlt:n.toNat < rows.length:=(Xn.1 bY).1;have e1:=co e1;cases e1 with
  |nil=>simp at hlt
  |sl _ _ b off cap f hM hb hc' hm hr h1 dy bA=>
   obtain⟨i,d,z,tk⟩:=ig ht;obtain⟨ie,de,ze,tke⟩:=ig gL;have j4:d= .slice e:=by
    have:=tk.elem;rw[he']at this;cases d<;>simp[gm]at this;rw[this]
   subst j4;have rE:0≤n∧n < (rows.length:Int):=⟨hn,by omega⟩;have za:row.length=sz:=hr row (Xl bY);refine⟨.pointer (some ⟨b,off+n.toNat*sz,none⟩),?_,.d _ _ (.ept row b _ (fun j=>f n.toNat j) hM hb (fun d hd=>h1 row (Xl bY) d hd) (fun j hj=>dy _ j hlt (by omega)) (fun j d hj=>bA _ j row d bY hj))⟩;simp[execOp,ho,hu,e2,Instr.indexAt,asIntOf,run_underlying tk.und,rE,sizeOf,typeInfo,tke.info,tke.size,cP,Addr.add_lit]
theorem Jk {t ty:Nat}{x:Operand}{e:Nat}{ti:TI}{d:D}{n:Nat}(ho:o.op= .call {callee:= .builtin .len,args:=#[x],argTypes:=#[t]})(ht:aT X.P t=some ti)(he':ti.elem=some e)(hx:ev s x= .d d)
 (hn:(∃sz rows,d= .sl sz rows∧n=rows.length)∨(d= .v (.slice none 0 0)∧n=0)):bI X ops s o {pv:= .d (.v (.int .i64 n))}:=
 aM hd fun s' he _ a w c hc=>by
  have e1:=bM hc x;rw[he x (by simp[ho,Op.operands,Call.operands]),hx]at e1;generalize hu:a.eval x=u at e1;obtain⟨i,dd,z,tk⟩:=ig ht;have j4:dd= .slice e:=by
   have:=tk.elem;rw[he']at this;cases dd<;>simp[gm]at this;rw[this]
  subst j4;have o9:∃ao cap,u= .slice ao n cap:=by
   have e1:=co e1;rcases hn with⟨sz,rows,rfl,rfl⟩|⟨rfl,rfl⟩
   ·cases e1 with
    |nil _ ao cap=>exact⟨ao,cap,rfl⟩
    |sl _ _ b off cap=>exact⟨_,cap,rfl⟩
   ·cases e1;exact⟨none,0,rfl⟩
  obtain⟨ao,cap,rfl⟩:=o9;refine⟨.int .i64 n,?_,.d _ _ (.v _)⟩;simp[execOp,ho,hu,resolve,invoke,builtin,Builtin.len_,run_underlying tk.und,goInt]
theorem DU {x:Operand}{i:Nat}{ds:List D}{d:D}(ho:o.op= .extract x i)(hx:ev s x= .d (.tup ds))(hi:ds[i]? =some d):bI X ops s o {pv:= .d d}:=
 aM hd fun s' he _ a w c hc=>by
  have e1:=bM hc x;rw[he x (by simp[ho,Op.operands]),hx]at e1;generalize hu:a.eval x=u at e1;have e1:=co e1;cases e1 with
  |tup _ vs hl bA=>
   have hlt:i < vs.length:=by rw[←hl];exact(Xn.1 hi).1
   have hv:vs[i]? =some vs[i]:=Xk hlt;exact⟨vs[i],by simp[execOp,ho,hu,Instr.extract,hv],.d _ _ (bA i d _ hi hv)⟩
theorem AY {x:Operand}{i:Nat}{ds:List PV}{d:PV}(ho:o.op= .extract x i)(hx:ev s x= .tup ds)(hi:ds[i]? =some d):bI X ops s o {pv:=d}:=
 aM hd fun s' he _ a w c hc=>by
  have e1:=bM hc x;rw[he x (by simp[ho,Op.operands]),hx]at e1;generalize hu:a.eval x=u at e1;cases e1 with
  |tup _ vs hl bA=>
   have hlt:i < vs.length:=by rw[←hl];exact(Xn.1 hi).1
   have hv:vs[i]? =some vs[i]:=Xk hlt;exact⟨vs[i],by simp[execOp,ho,hu,Instr.extract,hv],bA i d _ hi hv⟩
theorem xZ {t:Nat}{pl:List (Nat × Nat)}{place:Nat→Option (Nat × Nat)}{parts:Array (Nat × Operand)}{ti:TI}{pd:List (Nat × List PV)}{out:List PV}(ho:o.op= .build t parts)(ht:aT X.P t=some ti)(iG:∀i p,pl[i]? =some p→place i=some p)(WK:∀ps,X.P.built t ps=Instr.fill place ti.zero.toArray ps)
 (hp:pd.length=parts.size) (hq:∀(j:Nat) (i:Nat) (x:Operand),parts[j]? =some (i,x)→pd[j]? =some (i,cR (ev s x))∧xY (ev s x)=true) (hf:pu pl (ti.zero.map fun x=> .d (.v x)) pd=some out):
 bI X ops s o {pv:=rU out}:=
 aM hd fun s' he _ a w c hc=>by
  obtain⟨i,d,z,tk⟩:=ig ht;have L0:bG c w (ti.zero.map fun x=> .d (.v x)) ti.zero:=by
   have:=qw (c:=c) (Fr (M:=c.M) (w:=w) ti.zero);rwa [List.map_map]at this
  have Sy:∀d∈ti.zero.map (fun x=>PV.d (.v x)),d.one=true:=by
   intro d hd;obtain⟨x,hx,rfl⟩:=XQ.1 hd;exact tk.one x hx
  have nx:∀(j:Nat) (d:Nat × List PV) (x:Nat × Value),pd[j]? =some d→(parts.toList.map fun(i,x)=>(i,a.eval x))[j]? =some x→d.1=x.1∧bG c w d.2 x.2.cells.toList∧∀e∈d.2,e.one=true:=by
   intro j d x hj hx;simp only[Xz,X6,XO]at hx;obtain⟨⟨i,y⟩,hy,rfl⟩:=hx;obtain⟨h1,h3⟩:=hq j i y hy;rw[hj]at h1;cases h1;have fR:y∈o.op.operands:=by
    rw[ho];simp only[Op.operands,_c,XQ];exact⟨(i,y),by simpa using Z1 hy,rfl⟩
   have bA:=bM hc y;rw[he y fR]at bA;rw[←he y fR]at h3;have:=kr (bM hc y) h3;rw[he y fR]at this;exact⟨rfl,this⟩
  obtain⟨vs',q1,q2,q3,q4⟩:=AU (c:=c) (w:=w) pl place iG pd (parts.toList.map fun(i,x)=>(i,a.eval x)) (ti.zero.map fun x=> .d (.v x)) ti.zero out L0
   (by
    apply Yj;intro j;simp only[Xz];cases hj:parts[j]? with
    |none=>
     have h1:parts.size≤j:=by simpa using hj
     rw[XT (by omega)];simp[hj]
    |some ix=>
     obtain⟨i,x⟩:=ix;obtain⟨h1,-⟩:=hq j i x hj;simp[hj,h1])
   (fun j d x h1 h2=>(nx j d x h1 h2).2.1) hf Sy
   (fun q hq' e he'=>by
    obtain⟨j,hj,Uh⟩:=Yb hq';have WL:j < parts.toList.length:=by simpa using hp ▸ hj
    exact(nx j q _ (by rw[←Uh];exact Xk hj) (by rw[Xz,Xk WL];rfl)).2.2 e he')
  refine⟨.agg vs'.toArray,?_,qy q2 q3⟩;have hb:X.P.built t (parts.map fun(i,x)=>(i,a.eval x)).toList=some vs'.toArray:=by
   rw[WK,Z9];exact q1
  have:=run_build w t (parts.map fun(i,x)=>(i,a.eval x)) vs'.toArray hb;simp only[execOp,ho];rw[Sem.run_bind,this];rfl
theorem Jl {t:Nat}{parts:Array (Nat × Operand)}{ti:TI}{pd:List (Nat × List PV)}{out:List PV}(ho:o.op= .build t parts)(ht:aT X.P t=some ti)(dP:ti.fields≠[])
 (hp:pd.length=parts.size) (hq:∀(j:Nat) (i:Nat) (x:Operand),parts[j]? =some (i,x)→pd[j]? =some (i,cR (ev s x))∧xY (ev s x)=true) (hf:pu ti.fields (ti.zero.map fun x=> .d (.v x)) pd=some out):
 bI X ops s o {pv:=rU out}:=
 by
  obtain⟨i,d,z,tk⟩:=ig ht;obtain⟨⟨off,sz⟩,rest,gS⟩:∃p l,ti.fields=p::l:=by
   cases h:ti.fields with
   |nil=>exact absurd h dP
   |cons p l=>exact⟨p,l,rfl⟩
  obtain⟨fs,g,j,rfl,iG,-⟩:=tk.field (f:=0) (off:=off) (sz:=sz) (by rw[gS];rfl);refine xZ hd ho ht (pl:=ti.fields) (place:=(ti.fields.toArray[·]?)) (fun i p h=>by simpa using h) (fun ps=>?_) hp hq hf;unfold Program.built;have Ui:fs.toList.mapM (fun f=>(X.P.info? f.type).map fun i=>(f.offset,i.size))=some ti.fields:=iG;have:z.cells=ti.zero.toArray:=by rw[←tk.zcells]
  simp only[tk.info,tk.und,tk.zero,Ui,this]
theorem AZ {g:Nat}{caps:Array Operand}(ho:o.op= .makeFunc (.func g) #[] caps):bI X ops s o {pv:= .clo g (caps.toList.map (ev s))}:=
 aM hd fun s' he _ a w c hc=>by
  refine⟨.func (.func g) #[] (caps.toList.map a.eval).toArray,?_,.clo g _ _ (by simp) (fun j d x hj hx=>?_)⟩
  ·have:(caps.toList.map a.eval).toArray=caps.map a.eval:=by rw[←Z9]
   rw[this];simp[execOp,ho,Instr.makeFunc]
  ·simp only[Xz,X6,XO]at hj hx;obtain⟨y,hy,rfl⟩:=hj;obtain⟨y',hy',rfl⟩:=hx;rw[hy]at hy';cases hy';have:=bM hc y;rwa [he y (by rw[ho];simp[Op.operands,Z1 hy])]at this
theorem DV {t f off sz k g sz' i j:Nat}{x:Operand}{ti:TI}(ho:o.op= .fieldAddr t x f)(ht:aT X.P t=some ti)(hf:ti.fields[f]? =some (off,sz))(hs:sz≠0)(hx:ev s x= .rp k g sz' i j):
 bI X ops s o {pv:= .rp k g sz' i (j+off)}:=
 aM hd fun s' he _ a w c hc=>by
  have e1:=bM hc x;rw[he x (by simp[ho,Op.operands]),hx]at e1;generalize hu:a.eval x=u at e1;cases e1 with
  |rp _ _ _ _ _ b n cap hb=>
   obtain⟨ii,d,z,tk⟩:=ig ht;obtain⟨fs,g,jj,rfl,-,q1,q2,q3,q4⟩:=tk.field hf;have MN:jj.size≠0:=by omega
   exact⟨.pointer (some ⟨b,i*sz'+(j+off),none⟩),by simp[execOp,ho,hu,Instr.fieldAt,run_underlying tk.und,q1,Instr.sureAddr,fieldPlace,sizeOf,typeInfo,q2,MN,q3,Addr.add_lit,ZF],.rp k _ _ _ _ b n cap hb⟩
omit hd in
theorem ed {k E sz g:Nat}{rows:List (List PV)}{c:Cx}{w:World}{b n cap:Nat}(bc:ChunkOK c w k (.row E sz g rows))(hb:c.ov k g=some (.slice (some ⟨b,0,none⟩) n cap))(bY:rows≠[]):
 ∃(cur:Array Value) (xs:List Value),w.heap[b]? =some (.cells cur E (0,0))∧bG c w rows.flatten xs∧xs.length=rows.length*sz∧(∀j,j < rows.length*sz→cur[j]? =xs[j]?)∧(∀r∈rows,r.length=sz)∧(∀r∈rows,∀d∈r,d.one=true)∧n=rows.length∧rows.length*sz≤cur.size∧
  cap≤maxLen∧n≤cap∧cur.size=cap*sz:=by
 cases bc with
 |row _ _ _ _ u xs hu cX hr cP h1 hg=>
  rw[hb]at hu;cases hu;generalize hn:rows.length=n' at cX;cases cX with
  |zero a=>exact absurd (X9 hn) bY
  |row _ _ _ cur _ h0 hh I1 hm hs hl ht=>
   refine⟨cur,xs,hh,hr,hl,fun j hj=>?_,cP,h1,rfl,?_,hm,I1,hs⟩
   ·rw[←ht,XS hj,X6]
   ·rw[hs];exact Ys sz I1
omit hd in
theorem lZ {k E sz g:Nat}{rows:List (List PV)}{c:Cx}{w:World}{v:Value}(bc:ChunkOK c w k (.row E sz g rows))(ee:c.ov k g=some v)(bY:rows≠[]):∃b cap,v= .slice (some ⟨b,0,none⟩) rows.length cap:=by
 cases bc with
 |row _ _ _ _ u xs hu cX hr cP h1 hg=>
  rw[ee]at hu;cases hu;generalize hn:rows.length=n' at cX;cases cX with
  |nil=>exact absurd (X9 hn) bY
  |zero a=>exact absurd (X9 hn) bY
  |row b n cap=>exact⟨b,cap,rfl⟩
theorem A0 {t e k g sz:Nat}{x y:Operand}{ti te:TI}{rows:List (List PV)}{kd:IntKind}{n:Int}(ho:o.op= .indexAddr t x y)(ht:aT X.P t=some ti)(he':ti.elem=some e)(gL:aT X.P e=some te)(cP:te.size=sz)
 (hx:ev s x= .own k g) (hk:s.heap k= .row e sz g rows) (hy:ev s y= .d (.v (.int kd n))) (hn:0≤n) (hlt:n.toNat < rows.length):bI X ops s o {pv:= .rp k g sz n.toNat 0,touch:=[k]}:=
 aM hd fun s' he hU a w c hc=>by
  have e1:=bM hc x;rw[he x (by simp[ho,Op.operands]),hx]at e1;have e2:=cZ hc ((he y (by simp[ho,Op.operands])).trans hy);have bc:=hc.chunk k;rw[hU k (by simp),hk]at bc;generalize hu:a.eval x=u at e1;obtain⟨i,d,z,tk⟩:=ig ht;obtain⟨ie,de,ze,tke⟩:=ig gL;have j4:d= .slice e:=by
   have:=tk.elem;rw[he']at this;cases d<;>simp[gm]at this;rw[this]
  subst j4;cases e1 with
  |own _ _ _ ee h1=>
   obtain⟨gb,cap,rfl⟩:=lZ bc ee (fun e=>by rw[e]at hlt;simp at hlt);have rE:0≤n∧n < (rows.length:Int):=⟨hn,by omega⟩;refine⟨.pointer (some ⟨gb,n.toNat*sz+0,none⟩),?_,.rp k g sz _ _ gb _ cap ee⟩;simp[execOp,ho,hu,e2,Instr.indexAt,asIntOf,run_underlying tk.und,rE,sizeOf,typeInfo,tke.info,tke.size,cP,Addr.add_lit]
omit hd in
theorem A3 {sz i:Nat}{rows:List (List PV)}{row:List PV}{c:Cx}{w:World}{xs:List Value}(h:bG c w rows.flatten xs)(cP:∀r∈rows,r.length=sz)(bY:rows[i]? =some row)(hl:xs.length=rows.length*sz):bG c w row ((xs.drop (i*sz)).take sz):=by
 have hi:i < rows.length:=(Xn.1 bY).1;have za:row.length=sz:=cP row (Xl bY);have Au:(i+1)*sz≤rows.length*sz:=Ys sz hi;rw[YY]at Au;refine⟨by rw[Xp,XI];omega,fun j d x hj hx=>?_⟩;obtain⟨hlt,hx⟩:=eF hx;exact h.2 _ d x (by rw[cB cP i j hlt,bY];exact hj) hx
theorem x6 {t k g sz i j E:Nat}{x:Operand}{ti:TI}{rows:List (List PV)}{row:List PV}{p:PV}(ho:o.op= .load t x)(ht:aT X.P t=some ti)(hx:ev s x= .rp k g sz i j)(hk:s.heap k= .row E sz g rows)(bY:rows[i]? =some row)(cP:j+ti.size≤sz)
 (hp:(ti.agg=true∧p=rU ((row.drop j).take ti.size))∨(ti.agg=false∧ti.size=1∧row[j]? =some p)):bI X ops s o {pv:=p,touch:=[k]}:=
 aM hd fun s' he hU a w c hc=>by
  have e1:=bM hc x;rw[he x (by simp[ho,Op.operands]),hx]at e1;have bc:=hc.chunk k;rw[hU k (by simp),hk]at bc;generalize hu:a.eval x=u at e1;cases e1 with
  |rp _ _ _ _ _ b n cap hb=>
   obtain⟨cur,xs,q1,q2,q3,q4,q5,q6,q7,q8,-⟩:=ed bc hb (fun e=>by rw[e]at bY;cases bY);have hi:i < rows.length:=(Xn.1 bY).1;have za:row.length=sz:=q5 row (Xl bY);have Au:(i+1)*sz≤rows.length*sz:=Ys sz hi;rw[YY]at Au;have nx:=A3 q2 q5 bY q3;generalize IH:(xs.drop (i*sz)).take sz=ys at nx;have rF:ys.length=sz:=by rw[←nx.1,za]
   have dy:∀j' v,ys[j']? =some v→cur[i*sz+j']? =some v:=by
    intro j' v hj';rw[←IH]at hj';obtain⟨hlt,hj'⟩:=eF hj';rw[q4 _ (by omega),hj']
   have cr:=mL ht w b (i*sz+j) ((ys.drop j).take ti.size) (by rw[Xp,XI];omega) (fun j' v hj'=>by
    have:=dy _ v (eF hj').2;simp only[YS,q1];rw[ZF,this];simp)
   rcases hp with⟨o8,rfl⟩|⟨o8,lh,hp⟩
   ·refine⟨.agg ((ys.drop j).take ti.size).toArray,?_,qy (nx.part j ti.size) (fun d hd=>q6 row (Xl bY) d (Yd (Yg hd)))⟩;have:=cr (fun h=>by rw[o8]at h;cases h);rw[o8,if_pos rfl]at this;simp only[execOp,ho,hu];rw[Sem.run_bind,this];rfl
   ·obtain⟨v,hv⟩:∃v,ys[j]? =some v:=⟨ys[j]'(by omega),Xk _⟩;have eP:(ys.drop j).take ti.size=[v]:=by
     rw[lh,YQ (by omega)];simp only[ZC,Z4];rw[Xk (by omega)]at hv;simpa using hv
    refine⟨v,?_,nx.2 j p v hp hv⟩;have:=cr (fun _=>⟨v,eP⟩);rw[o8,eP]at this;simp only[execOp,ho,hu];rw[Sem.run_bind,this];rfl
theorem GM {t k g sz E:Nat}{x:Operand}{e:Nat}{ti:TI}{rows:List (List PV)}(ho:o.op= .call {callee:= .builtin .len,args:=#[x],argTypes:=#[t]})(ht:aT X.P t=some ti)(he':ti.elem=some e)(hx:ev s x= .own k g)(hk:s.heap k= .row E sz g rows):
 bI X ops s o {pv:= .d (.v (.int .i64 rows.length)),touch:=[k]}:=
 aM hd fun s' he hU a w c hc=>by
  have e1:=bM hc x;rw[he x (by simp[ho,Op.operands,Call.operands]),hx]at e1;have bc:=hc.chunk k;rw[hU k (by simp),hk]at bc;generalize hu:a.eval x=u at e1;obtain⟨i,dd,z,tk⟩:=ig ht;have j4:dd= .slice e:=by
   have:=tk.elem;rw[he']at this;cases dd<;>simp[gm]at this;rw[this]
  subst j4;cases e1 with
  |own _ _ _ ee h1=>
   cases bc with
   |row _ _ _ _ u' xs hu' cX hr OJ h1 hg=>
    rw[ee]at hu';cases hu';refine⟨.int .i64 rows.length,?_,.d _ _ (.v _)⟩;generalize hn:rows.length=n' at cX;cases cX<;>simp[execOp,ho,hu,resolve,invoke,builtin,Builtin.len_,run_underlying tk.und,goInt]
end
section
variable {X:Cfg}{ops:Array Oper}{s:FS}{o:Oper}(hd:∀d,o.dst=some d→d < X.n)
include hd
theorem Jm {t nk:Nat}{ti:TI}(ho:o.op= .alloc t)(ht:aT X.P t=some ti)(hk:s.heap nk= .none)(tQ:¬nk < X.m):bI X ops s o {pv:= .ptr nk 0,eff:=[(nk,.box t (ti.zero.map fun x=> .d (.v x)))],touch:=[nk]}:=
 d4 hd (fun kc h=>by simp at h;subst h;simp) fun s' he hU a w c hc=>by
  obtain⟨i,d,z,tk⟩:=ig ht;have hr:bG c w (ti.zero.map fun x=> .d (.v x)) ti.zero:=by
   have:=qw (c:=c) (Fr (M:=c.M) (w:=w) ti.zero);rwa [List.map_map]at this
  obtain⟨c',h1,h2⟩:=hc.new_box (k:=nk) (by rw[hU nk (by simp)];exact hk) tQ t _ ti.zero hr (fun d hd=>by
   obtain⟨x,hx,rfl⟩:=XQ.1 hd;exact tk.one x hx)
  refine⟨_,_,_,?_,.inl rfl,c',h1,h2⟩;have hz:z.cells=ti.zero.toArray:=by rw[←tk.zcells]
  have cr:(Instr.alloc t true (.tuple #[])).run X.P w= .ok (.pointer (some ⟨w.heap.size,0,none⟩)) (w.alloc (.cells ti.zero.toArray t)):=by
   rw[←hz];have jy:∀o:Obj,({w with heap:=w.heap.push o}:World)=w.alloc o:=fun o=>(J' w o);simp[Instr.alloc,zeroValue,typeInfo,tk.info,tk.zero,newVar,newRow,newObj,Sem.run,jy]
  simp only[execOp,ho];rw[Sem.run_bind,cr];rfl
theorem PQ {t nk:Nat}{x:Operand}(ho:o.op= .box t x)(hk:s.heap nk= .none)(tQ:¬nk < X.m)(hx:xY (ev s x)=true):bI X ops s o {pv:= .ptr nk 0,eff:=[(nk,.box t (cR (ev s x)))],touch:=[nk]}:=
 d4 hd (fun kc h=>by simp at h;subst h;simp) fun s' he hU a w c hc=>by
  have e1:=bM hc x;rw[he x (by simp[ho,Op.operands])]at e1;obtain⟨r1,r2⟩:=kr e1 hx;obtain⟨c',h1,h2⟩:=hc.new_box (k:=nk) (by rw[hU nk (by simp)];exact hk) tQ t _ _ r1 r2;refine⟨_,_,_,?_,.inl rfl,c',h1,h2⟩;have cr:(Instr.box t (a.eval x)).run X.P w= .ok (.pointer (some ⟨w.heap.size,0,none⟩)) (w.alloc (.cells (a.eval x).cells.toList.toArray t)):=by
   have jy:∀o:Obj,({w with heap:=w.heap.push o}:World)=w.alloc o:=fun o=>(J' w o);simp[Instr.box,newVar,newRow,newObj,Sem.run,jy]
  simp only[execOp,ho];rw[Sem.run_bind,cr];rfl
theorem Jn {t k off T:Nat}{x y:Operand}{ti:TI}{cells:List PV}(ho:o.op= .store t x y)(sP:o.dst=none)(ht:aT X.P t=some ti)(hx:ev s x= .ptr k off)(hk:s.heap k= .box T cells)(hy:xY (ev s y)=true)
 (hl:(cR (ev s y)).length=ti.size) (cP:off+ti.size≤cells.length):bI X ops s o {pv:= .any,eff:=[(k,.box T (ay cells off (cR (ev s y))))],touch:=[k]}:=
 d4 hd (fun kc h=>by simp at h;subst h;simp) fun s' he hU a w c hc=>by
  have e1:=bM hc x;rw[he x (by simp[ho,Op.operands]),hx]at e1;have e2:=bM hc y;rw[he y (by simp[ho,Op.operands])]at e2;obtain⟨r1,r2⟩:=kr e2 hy;have eP:=bG.one r1 r2;have hk':s'.heap k= .box T cells:=by rw[hU k (by simp)];exact hk
  have bc:=hc.chunk k;rw[hk']at bc;generalize hu:a.eval x=u at e1;cases e1 with
  |ptr _ _ b hb=>
   cases bc with
   |box _ _ b' vs hb' hh hr h1=>
    rw[hb]at hb';cases hb';obtain⟨i,d,z,tk⟩:=ig ht;have Pu:vs.length=cells.length:=hr.1.symm;have rF:(a.eval y).cells.size=ti.size:=by have:=r1.1;simp at this;omega
    have gM:=lY (off:=off) hr r1 (by omega);have h3:=hc.set_box hk' hb hh gM (fun d hd=>(ku hd).elim (h1 d) (r2 d));refine⟨.skip,undef,_,?_,.inr ⟨rfl,rfl⟩,c,h3,.any _⟩;have dP:=run_storeCells_at X.P b off T (a.eval y).cells.toList 0 vs.toArray w hh (by simp;omega) eP;have pk:(storeCells ⟨b,off,none⟩ (a.eval y).cells.toList).run X.P w= .ok () (w.setRow b (ay vs off (a.eval y).cells.toList).toArray):=by
     rw[dP];simp[ay]
    have cr:(Instr.storeAt t (a.eval x) (a.eval y)).run X.P w= .ok () (w.setRow b (ay vs off (a.eval y).cells.toList).toArray):=by
     rw[hu];simp[Instr.storeAt,Instr.sureAddr,storeVar,sizeOf,typeInfo,tk.info,tk.size,rF,pk]
    simp only[execOp,ho];rw[Sem.run_bind,cr];rfl
omit hd in
theorem cN {α:Type}{sz:Nat}:∀{rows:List (List α)},(∀r∈rows,r.length=sz)→rows.flatten.length=rows.length*sz
 |[],_=>by simp
 |r::rows,h=>by
  rw[YU,XY,h r (by simp),cN (fun r hr=>h r (by simp[hr])),XA,YY];omega
omit hd in
theorem uG {M:Nat→Prop}{w:World}{sz:Nat}{rows:List (List D)}{ad:Addr}{n cap:Nat}(hs:0 < sz)(h:RepD M w (.sl sz rows) (.slice (some ad) n cap)):
 ∃xs:List Value,xs.length=n*sz∧n=rows.length∧dZ M w rows.flatten xs∧(∀j u,xs[j]? =some u→w.cell? (ad.add j)=some u)∧(∀u∈xs,u.oneCell'=true)∧(∀r∈rows,r.length=sz)∧(∀r∈rows,∀d∈r,d.one=true):=by
 cases h with
 |nil _ _ _ hm=>exact⟨[],by simp,rfl,⟨rfl,fun j d x h=>by simp at h⟩,fun j u h=>by simp at h,fun u h=>by simp at h,fun r h=>by simp at h,fun r h=>by simp at h⟩
 |sl _ _ b off cap f hM hb hc hm hr h1 dy bA=>
  have VL:∀j,j < rows.length*sz→j / sz < rows.length∧j % sz < sz∧j / sz*sz+j % sz=j:=fun j hj=>
   ⟨Zw (by rw[Zp];exact hj),Y' _ hs,by rw[Zp];exact ZN j sz⟩
  have OK:∀j u,((X5 (rows.length*sz)).map fun j=>f (j / sz) (j % sz))[j]? =some u→j < rows.length*sz∧u=f (j / sz) (j % sz):=by
   intro j u hj;simp only[Xz,XO]at hj;obtain⟨y,hy,rfl⟩:=hj;have hj':j < rows.length*sz:=by
    rcases XP j (rows.length*sz)with h|h
    ·exact h
    ·rw[XT (by simpa using h)]at hy;cases hy
   rw[ZU hj']at hy;cases hy;exact⟨hj',rfl⟩
  have VM:dZ M w rows.flatten ((X5 (rows.length*sz)).map fun j=>f (j / sz) (j % sz)):=by
   refine⟨by rw[cN hr];simp,fun j d x hj hx=>?_⟩;obtain⟨hj',rfl⟩:=OK j x hx;obtain⟨q1,q2,q3⟩:=VL j hj';rw[←q3,cB hr _ _ q2]at hj;cases bY:rows[j / sz]? with
   |none=>rw[bY]at hj;cases hj
   |some row=>
    rw[bY]at hj;exact bA _ _ row d bY hj
  refine⟨_,by simp,rfl,VM,fun j u hj=>?_,dZ.one VM (fun d hd=>?_),hr,h1⟩
  ·obtain⟨hj',rfl⟩:=OK j u hj;obtain⟨q1,q2,q3⟩:=VL j hj';rw[Addr.add_lit];have:=dy _ _ q1 q2;rwa [ZF,q3]at this
  ·obtain⟨r,hr',DJ⟩:=ZW.1 hd;exact h1 r hr' d DJ
omit hd in
theorem zr {P:Program}{w:World}(base:Nat)(t ty e:TypeId)(i:TypeInfo)(z:Value)(size bytes:Nat)(ht:P.underlying t=some (.slice e))(hi:P.info? e=some i)(hz:i.zero=some z)
 (zb:i.size=size) (MO:i.bytes=bytes) (L1:z.cells.size=size) (cP:0 < size) (v:Value) (n:Nat) (xs:List Value) (cX:w.ownsRow base e size v n xs)
 (a:Addr) (m c:Nat) (news:List Value) (hl:news.length=m*size) (tT:∀j u,news[j]? =some u→w.cell? (a.add j)=some u) (h1:∀u∈news,u.oneCell'=true)
 (Sz:n+m≤maxLen) (qi:(n+m)*bytes≤140737488355328) {v':Value}{w':World} (cr:(Builtin.append_ #[t,t] ty #[v,.slice (some a) m c]).run P w= .ok v' w'):
 v'.ownBlock=v.ownBlock∨∀b,v'.ownBlock=some b→w.heap.size≤b:=by
 subst zb;subst MO;simp only[maxLen]at Sz;rcases cX.2 with⟨rfl,rfl⟩|⟨g,cap,cur,rfl,cQ,hg,I1,I2,fl,VN⟩
 ·by_cases hm:m=0
  ·subst hm;have hn:news=[]:=X9 (by simpa using hl);have:(Builtin.append_ #[t,t] ty #[.slice none 0 0,.slice (some a) 0 c]).run P w= .ok (.slice none 0 0) w:=by
    simp[Builtin.append_,run_underlying ht,sizeOf,typeInfo,hi,Builtin.lenOf,Builtin.firstCells,loadCells,loadCellsFrom]
   rw[this]at cr;cases cr;exact .inl rfl
  ·have hr:=run_append_nil (P:=P) w t ty e i z ht hi hz a m c news hl tT (by omega) (by omega) (by have hb:=qi;simp only[XG]at hb;omega);rw[hr]at cr;cases cr;refine .inr fun b hb=>?_;simp[Value.ownBlock]at hb;omega
 ·by_cases jc:n+m≤cap
  ·have Av:n*i.size+news.length≤cur.size:=by rw[hl,fl,←ZQ];exact Ys _ jc
   have hr:=run_append_room (P:=P) w t ty e i ht hi g n cap cur hg a m c news hl tT h1 jc Av;rw[hr]at cr;cases cr;exact .inl rfl
  ·have holds:∀j u,xs[j]? =some u→w.cell? ((⟨g,0,none⟩:Addr).add j)=some u:=cX.cells (g:=g) rfl;have hr:=run_append_grow (P:=P) w t ty e i z ht hi hz ⟨g,0,none⟩ n cap xs cX.1 holds a m c news hl tT (by omega) (by omega) (growslice_fits (by omega) qi);rw[hr]at cr;cases cr;refine .inr fun b hb=>?_;simp[Value.ownBlock]at hb;omega
omit hd in
theorem OwnV.of_row {w:World}{base E sz:Nat}{v:Value}{n:Nat}{xs:List Value}(h:w.ownsRow base E sz v n xs):OwnV w E sz v n xs:=by
 have hl:=h.1;rcases h.2 with⟨rfl,rfl⟩|⟨g,cap,cur,rfl,cQ,hg,I1,I2,fl,ht⟩
 ·have:xs=[]:=X9 (by simpa using hl);subst this;exact .nil
 ·rcases ZJ cap with h0|h0
  ·subst h0;have hn:n=0:=by omega
   subst hn;have:xs=[]:=X9 (by simpa using hl);subst this;exact .zero _
  ·exact .row g n cap cur xs h0 hg I1 I2 fl hl ht
omit hd in
theorem dh {a:Addr}{n cap:Nat}(h:0 < cap):fm (.slice (some a) n cap)=some a.block:=by
 obtain⟨cap,rfl⟩:∃c,cap=c+1:=⟨cap - 1,by omega⟩;rfl
omit hd in
theorem qz {P:Program}{w:World}(t ty e:TypeId)(i:TypeInfo)(z:Value)(size bytes:Nat)(ht:P.underlying t=some (.slice e))(hi:P.info? e=some i)(hz:i.zero=some z)
 (zb:i.size=size) (MO:i.bytes=bytes) (L1:z.cells.size=size) (cP:0 < size) (v:Value) (n:Nat) (xs:List Value) (cX:OwnV w e size v n xs)
 (a:Addr) (m c:Nat) (news:List Value) (hl:news.length=m*size) (tT:∀j u,news[j]? =some u→w.cell? (a.add j)=some u) (h1:∀u∈news,u.oneCell'=true)
 (Sz:n+m≤maxLen) (qi:(n+m)*bytes≤140737488355328):
 ∃v' w',(Builtin.append_ #[t,t] ty #[v,.slice (some a) m c]).run P w= .ok v' w'∧OwnV w' e size v' (n+m) (xs++news)∧OneB w w' (fm v)∧(fm v'=fm v∨∀b,fm v'=some b→w.heap.size≤b):=by
 have main:∀u,w.ownsRow 0 e size u n xs→(u= .slice none 0 0∨∃g cap,0 < cap∧u= .slice (some ⟨g,0,none⟩) n cap)→
  ∃v' w',(Builtin.append_ #[t,t] ty #[u,.slice (some a) m c]).run P w= .ok v' w'∧OwnV w' e size v' (n+m) (xs++news)∧OneB w w' (fm u)∧(fm v'=fm u∨∀b,fm v'=some b→w.heap.size≤b):=by
  intro u hu hk;obtain⟨v',w',cr,zc,DK,-⟩:=run_append_own (P:=P) w 0 t ty e i z size bytes ht hi hz zb MO L1 cP u n xs hu a m c news hl tT h1 Sz qi (XD _);have SA:=zr (P:=P) (w:=w) 0 t ty e i z size bytes ht hi hz zb MO L1 cP u n xs hu a m c news hl tT h1 Sz qi cr;have hb:u.ownBlock=fm u:=by
   rcases hk with rfl|⟨g,cap,h0,rfl⟩
   ·rfl
   ·rw[dh h0];rfl
  have jd:∀b,fm v'=some b→v'.ownBlock=some b:=by
   intro b hb;cases v' with
   |slice ao k cap=>
    cases ao with
    |none=>cases hb
    |some ad=>cases cap with
     |zero=>cases hb
     |succ cap=>exact hb
   |_=>cases hb
  refine⟨v',w',cr,.of_row zc,⟨DK.os,DK.tape,DK.output,DK.size,fun b hb' bB=>DK.block b hb' (fun e=>bB (by rw[←hb];exact e.symm))⟩,?_⟩;rcases SA with hw|hw
  ·by_cases I3:∃b,fm v'=some b
   ·obtain⟨b,L2⟩:=I3;exact .inl (by rw[←hb,←hw,L2,jd b L2])
   ·exact .inr fun b hb=>absurd ⟨b,hb⟩ I3
  ·exact .inr fun b hb=>hw b (jd b hb)
 cases cX with
 |nil=>exact main _ (World.ownsRow_nil w 0 e size) (.inl rfl)
 |row g n cap cur xs h0 hh hn hm hs hl ht=>exact main _ ⟨hl,.inr ⟨g,cap,cur,rfl,XD _,hh,hn,hm,hs,ht⟩⟩ (.inr ⟨g,cap,h0,rfl⟩)
 |zero ad=>
  by_cases hm:m=0
  ·subst hm;have hn:news=[]:=X9 (by simpa using hl);subst hn;refine⟨.slice (some ad) 0 0,w,?_,.zero ad,⟨rfl,rfl,rfl,XB _,fun _ _ _=>rfl⟩,.inl rfl⟩;simp[Builtin.append_,run_underlying ht,sizeOf,typeInfo,hi,Builtin.lenOf,Builtin.firstCells,loadCells,loadCellsFrom,storeCells]
  ·simp only[maxLen]at Sz;have pb:=run_append_nil (P:=P) w t ty e i z ht hi hz a m c news (by rw[zb];exact hl) tT (by omega) (by omega) (by rw[MO];simp only[XG]at qi;omega);have hg:=run_append_grow (P:=P) w t ty e i z ht hi hz ad 0 0 [] (by simp) (fun j v h=>by simp at h) a m c news (by rw[zb];exact hl) tT (by omega) (by omega)
    (by rw[MO];exact growslice_fits (by omega) qi)
   obtain⟨v',w',g1,g2,g3,g4⟩:=main _ (World.ownsRow_nil w 0 e size) (.inl rfl);rw[pb]at g1;simp only[XG]at hg;have e2:(#[]++news.toArray++Builtin.zeroCells z.cells (grownCap w m 0 e - m))=news.toArray++Builtin.zeroCells z.cells (grownCap w m 0 e - m):=by simp
   rw[show ([]:List Value).toArray=#[] from rfl,e2,g1]at hg;exact⟨v',w',hg,g2,g3,g4⟩
omit hd in
theorem l6 {P:Program}{w:World}(t ty e:TypeId)(i:TypeInfo)(size:Nat)(ht:P.underlying t=some (.slice e))(hi:P.info? e=some i)(v:Value)(n:Nat)(xs:List Value)(cX:OwnV w e size v n xs)(c:Nat):
 (Builtin.append_ #[t,t] ty #[v,.slice none 0 c]).run P w= .ok v w:=by
 cases cX with
 |nil=>simp[Builtin.append_,run_underlying ht,sizeOf,typeInfo,hi,Builtin.lenOf,Builtin.firstCells]
 |zero a=>simp[Builtin.append_,run_underlying ht,sizeOf,typeInfo,hi,Builtin.lenOf,Builtin.firstCells,storeCells]
 |row g n cap cur xs h0 hh hn hm hs hl gU=>simp[Builtin.append_,run_underlying ht,sizeOf,typeInfo,hi,Builtin.lenOf,Builtin.firstCells,hn,storeCells]
omit hd in
theorem iq {rows:List (List D)}{r:List PV}(h:r∈ab rows):∃q∈rows,r=q.map .d:=by
 obtain⟨q,hq,rfl⟩:=XQ.1 h;exact⟨q,hq,rfl⟩
omit hd in
theorem pw (rows:List (List D)):(ab rows).flatten=rows.flatten.map .d:=by
 simp[ab,List.map_flatten]
inductive SrcP (s:FS) (sz:Nat):PV→List (List PV)→List Nat→Prop
 |sl (news:List (List D)):SrcP s sz (.d (.sl sz news)) (ab news) []
 |nil (ao:Option Addr) (c:Nat):SrcP s sz (.d (.v (.slice ao 0 c))) [] []
 |own (k g E:Nat) (rows:List (List PV)) (h:s.heap k= .row E sz g rows):SrcP s sz (.own k g) rows [k]
 |osl (k g E a n:Nat) (rows:List (List PV)) (h:s.heap k= .row E sz g rows):SrcP s sz (.osl k g sz a n) ((rows.drop a).take n) [k]
omit hd in
theorem j9 {α:Type}{sz:Nat}:∀{rows:List (List α)},(∀r∈rows,r.length=sz)→∀a,(rows.drop a).flatten=rows.flatten.drop (a*sz)
 |rows,_,0=>by simp
 |[],_,a+1=>by simp
 |r::rows,h,a+1=>by
  have hr:=h r (by simp);rw[List.drop_succ_cons,j9 (fun r hr=>h r (by simp[hr])) a,YU,YY,_d,L' (l:=r) (by omega),Ya,hr];congr 1;omega
omit hd in
theorem iI {α:Type}{sz:Nat}:∀{rows:List (List α)},(∀r∈rows,r.length=sz)→∀a,(rows.take a).flatten=rows.flatten.take (a*sz)
 |rows,_,0=>by simp
 |[],_,a+1=>by simp
 |r::rows,h,a+1=>by
  have hr:=h r (by simp);rw[ZC,YU,YU,iI (fun r hr=>h r (by simp[hr])) a,YY,List.take_append,XN (l:=r) (by omega),hr];congr 2;omega
omit hd in
theorem DW {s s':FS}{sz:Nat}{y:PV}{news:List (List PV)}{ty:List Nat}(h:SrcP s sz y news ty)(wJ:0 < sz)(hU:∀k∈ty,s'.heap k=s.heap k){a:Act}{w:World}{c:Cx}(hc:RealC X s' a w c){v:Value}(hr:RepP c w y v):
 (∀r∈news,r.length=sz)∧(∀r∈news,∀d∈r,d.one=true)∧((∃c0,v= .slice none 0 c0∧news=[])∨
  ∃(ad:Addr) (cap:Nat) (ys:List Value),v= .slice (some ad) news.length cap∧ys.length=news.length*sz∧(∀j u,ys[j]? =some u→w.cell? (ad.add j)=some u)∧(∀u∈ys,u.oneCell'=true)∧bG c w news.flatten ys):=by
 cases h with
 |sl news=>
  have hr:=co hr;have some_case:∀(ad:Addr) (n cap:Nat),RepD c.M w (.sl sz news) (.slice (some ad) n cap)→_:=fun ad n cap h=>uG wJ h;have rows_ok:(∀r∈news,r.length=sz)→(∀r∈news,∀d∈r,d.one=true)→(∀r∈ab news,r.length=sz)∧(∀r∈ab news,∀d∈r,d.one=true):=fun g1 g2=>by
   refine⟨fun r hr=>?_,fun r hr d hd=>?_⟩
   ·obtain⟨q,hq,rfl⟩:=iq hr;simpa using g1 q hq
   ·obtain⟨q,hq,rfl⟩:=iq hr;obtain⟨x,hx,rfl⟩:=XQ.1 hd;exact g2 q hq x hx
  have bT:(ab news).length=news.length:=by simp[ab]
  cases hr with
  |nil _ ao cap hm=>
   refine⟨fun r h=>by simp[ab]at h,fun r h=>by simp[ab]at h,?_⟩;cases ao with
   |none=>exact .inl ⟨cap,rfl,rfl⟩
   |some ad=>exact .inr ⟨ad,cap,[],rfl,by simp[ab],fun j u h=>by simp at h,fun u h=>by simp at h,⟨rfl,fun j d x h=>by simp[ab]at h⟩⟩
  |sl _ _ b off cap f a1 a2 a3 a4 a5 a6 a7 a8=>
   obtain⟨ys,y1,-,y2,y3,y4,y5,y6⟩:=uG (w:=w) wJ (RepD.sl (M:=c.M) sz news b off cap f a1 a2 a3 a4 a5 a6 a7 a8);obtain⟨q1,q2⟩:=rows_ok y5 y6;exact⟨q1,q2,.inr ⟨⟨b,off,none⟩,cap,ys,by rw[bT],by rw[bT];exact y1,y3,y4,by rw[pw];exact qw y2⟩⟩
 |nil ao c=>
  have hr:=co hr;cases hr;cases ao with
  |none=>exact⟨fun r h=>by simp at h,fun r h=>by simp at h,.inl ⟨c,rfl,rfl⟩⟩
  |some ad=>exact⟨fun r h=>by simp at h,fun r h=>by simp at h,.inr ⟨ad,c,[],rfl,by simp,fun j u h=>by simp at h,fun u h=>by simp at h,⟨rfl,fun j d x h=>by simp at h⟩⟩⟩
 |own k g E rows hk=>
  have bc:=hc.chunk k;rw[hU k (by simp),hk]at bc;cases hr with
  |own _ _ _ ee _=>
   cases bc with
   |row _ _ _ _ u xs hu cX ny cP h1 hg=>
    rw[ee]at hu;cases hu;refine⟨cP,h1,?_⟩;have eP:=bG.one ny (fun d hd=>by obtain⟨r,hr,hd⟩:=ZW.1 hd;exact h1 r hr d hd);generalize hn:news.length=n' at cX;cases cX with
    |nil=>exact .inl ⟨0,rfl,X9 hn⟩
    |zero ad=>exact .inr ⟨ad,0,[],rfl,by simp,fun j u h=>by simp at h,fun u h=>by simp at h,ny⟩
    |row gb _ cap cur _ h0 hh I1 hm hs hl ht=>
     refine .inr ⟨⟨gb,0,none⟩,cap,xs,rfl,hl,fun j u hj=>?_,eP,ny⟩;rw[Addr.add_lit];have hlt:j < n'*sz:=by rw[←hl];exact(Xn.1 hj).1
     rw[←ht,XS hlt,X6]at hj;simp[YS,hh,hj]
 |osl k g E st m rows hk=>
  have bc:=hc.chunk k;rw[hU k (by simp),hk]at bc;cases hr with
  |osl _ _ _ _ _ b o N cap ee hn Pv ho=>
   cases bc with
   |row _ _ _ _ u xs hu cX ny cP h1 hg=>
    rw[ee]at hu;cases hu;have eP:=bG.one ny (fun d hd=>by obtain⟨r,hr,hd⟩:=ZW.1 hd;exact h1 r hr d hd);refine⟨fun r hr=>cP r (Yd (Yg hr)),fun r hr=>h1 r (Yd (Yg hr)),.inr ⟨⟨b,o,none⟩,cap - st,(xs.drop (st*sz)).take (m*sz),?_⟩⟩;have hN:N=rows.length:=by
     have:=cX;generalize rows.length=n' at this;cases this<;>rfl
    have pF:((rows.drop st).take m).length=m:=by rw[Xp,XI];omega
    have Fa:=cX.len;have QM:(st+m)*sz≤rows.length*sz:=Ys sz (by omega);rw[ZQ]at QM;refine⟨by rw[pF],by rw[pF,Xp,XI];omega,fun j u hj=>?_,fun u hu=>eP u (Yd (Yg hu)),?_⟩
    ·have hlt:j < m*sz:=by
      have:=(Xn.1 hj).1;rw[Xp]at this;omega
     rw[XS hlt,Yk]at hj;have hm0:0 < m:=by
      rcases ZJ m with h|h
      ·subst h;simp at hlt
      ·exact h
     rw[Addr.add_lit,ho (by omega)];generalize RJ:rows.length=n' at cX;cases cX with
     |zero=>simp at RJ;omega
     |row _ _ _ cur _ h0 hh I1 hm hs hl ht=>
      rw[←ht,XS (by rw[RJ]at QM;omega),X6]at hj;simp[YS,hh,hj]
    ·rw[iI (fun r hr=>cP r (Yd hr)),j9 cP];exact ny.part _ _
omit hd in
theorem rV {c:Cx}{w:World}{ds es:List PV}{vs us:List Value}(h:bG c w ds vs)(g:bG c w es us):bG c w (ds++es) (vs++us):=by
 refine⟨by simp[h.1,g.1],fun j d x hj hx=>?_⟩;by_cases hlt:j < ds.length
 ·rw[X4 hlt]at hj;rw[X4 (by rw[←h.1];exact hlt)]at hx;exact h.2 j d x hj hx
 ·rw[XK (by omega)]at hj;rw[XK (by rw[←h.1];omega),←h.1]at hx;exact g.2 _ d x hj hx
theorem GN {t e k sz g:Nat}{x y:Operand}{ti te:TI}{rows news:List (List PV)}{tyy:List Nat}(ho:o.op= .call {callee:= .builtin .append,args:=#[x,y],argTypes:=#[t,t]})(ht:aT X.P t=some ti)(he':ti.elem=some e)(gL:aT X.P e=some te)
 (cP:te.size=sz) (wJ:0 < sz) (hx:ev s x= .own k g) (hk:s.heap k= .row e sz g rows) (hy:SrcP s sz (ev s y) news tyy)
 (bT:rows.length+news.length≤9223372036854775807) (MO:(rows.length+news.length)*te.bytes≤140737488355328):
 bI X ops s o {pv:= .own k (g+1),eff:=[(k,.row e sz (g+1) (rows++news))],touch:=k::tyy}:=
 d4 hd (fun kc h=>by simp at h;subst h;simp) fun s' he hU a w c hc=>by
  have e1:=bM hc x;rw[he x (by simp[ho,Op.operands,Call.operands]),hx]at e1;have e2:=bM hc y;rw[he y (by simp[ho,Op.operands,Call.operands])]at e2;have hk':s'.heap k= .row e sz g rows:=by rw[hU k (by simp)];exact hk
  have bc:=hc.chunk k;rw[hk']at bc;obtain⟨i,d,z,tk⟩:=ig ht;obtain⟨ie,de,ze,tke⟩:=ig gL;have j4:d= .slice e:=by
   have:=tk.elem;rw[he']at this;cases d<;>simp[gm]at this;rw[this]
  subst j4;have L1:ze.cells.size=sz:=by rw[←cP,←tke.zsize,←tke.zcells];simp
  have Dl:∀u v,a.eval x=u→a.eval y=v→∀v' w',(Builtin.append_ #[t,t] o.type #[u,v]).run X.P w= .ok v' w'→(execOp a.eval o).run X.P w= .ok (.value v') w':=by
   intro u v hu hv v' w' hr;simp[execOp,ho,resolve,hu,hv,invoke,builtin,hr]
  generalize hu:a.eval x=u at e1;generalize hv:a.eval y=v at e2;obtain⟨n1,n2,rG⟩:=DW hy wJ (fun k hk=>hU k (Zc _ hk)) hc e2;cases e1 with
  |own _ _ _ ee AN=>
   cases bc with
   |row _ _ _ _ u' xs hu' cX hr OJ h1 hg=>
    rw[ee]at hu';cases hu';rcases rG with⟨c0,rfl,rfl⟩|⟨ad,cap,ys,rfl,y1,y2,y3,y4⟩
    ·have cr:=l6 (P:=X.P) t o.type e ie sz tk.und tke.info u rows.length xs cX c0;obtain⟨c',q1,q2⟩:=hc.set_row (w':=w) (rows':=rows++[]) (v':=u) (xs':=xs) hk' ee ⟨rfl,rfl,rfl,XB _,fun _ _ _=>rfl⟩ (by rw[Yv];exact cX) (.inl rfl) (by rw[Yv];exact hr)
      (by rw[Yv];exact OJ) (by rw[Yv];exact h1)
     exact⟨_,_,_,Dl _ _ hu hv _ _ cr,.inl rfl,c',q1,q2⟩
    ·obtain⟨v',w',cr,zc,DK,SA⟩:=qz (P:=X.P) (w:=w) t o.type e ie ze sz te.bytes tk.und tke.info tke.zero (tke.size.trans cP) tke.bytes L1 wJ u rows.length xs cX ad news.length cap ys y1 y2 y3 (by unfold maxLen;exact bT) MO;obtain⟨c',q1,q2⟩:=hc.set_row (w':=w') (rows':=rows++news) (v':=v') (xs':=xs++ys) hk' ee DK (by rw[XY];exact zc) SA (by rw[B'];exact rV hr y4)
      (fun r hr'=>(X2.1 hr').elim (OJ r) (n1 r)) (fun r hr'=>(X2.1 hr').elim (h1 r) (n2 r))
     exact⟨_,_,_,Dl _ _ hu hv _ _ cr,.inl rfl,c',q1,q2⟩
theorem zt {t e nk sz:Nat}{x y:Operand}{ti te:TI}{news:List (List PV)}{tyy:List Nat}(ho:o.op= .call {callee:= .builtin .append,args:=#[x,y],argTypes:=#[t,t]})(ht:aT X.P t=some ti)(he':ti.elem=some e)(gL:aT X.P e=some te)
 (cP:te.size=sz) (wJ:0 < sz) (hx:ev s x= .d (.v (.slice none 0 0))) (hk:s.heap nk= .none) (tQ:¬nk < X.m) (hy:SrcP s sz (ev s y) news tyy)
 (bT:news.length≤9223372036854775807) (MO:news.length*te.bytes≤140737488355328):
 bI X ops s o {pv:= .own nk 0,eff:=[(nk,.row e sz 0 news)],touch:=nk::tyy}:=
 d4 hd (fun kc h=>by simp at h;subst h;simp) fun s' he hU a w c hc=>by
  have e2:=bM hc y;rw[he y (by simp[ho,Op.operands,Call.operands])]at e2;have hk':s'.heap nk= .none:=by rw[hU nk (by simp)];exact hk
  have hu:=cZ hc ((he x (by simp[ho,Op.operands,Call.operands])).trans hx);obtain⟨i,d,z,tk⟩:=ig ht;obtain⟨ie,de,ze,tke⟩:=ig gL;have j4:d= .slice e:=by
   have:=tk.elem;rw[he']at this;cases d<;>simp[gm]at this;rw[this]
  subst j4;have L1:ze.cells.size=sz:=by rw[←cP,←tke.zsize,←tke.zcells];simp
  generalize hv:a.eval y=v at e2;have Dl:∀v' w',(Builtin.append_ #[t,t] o.type #[.slice none 0 0,v]).run X.P w= .ok v' w'→(execOp a.eval o).run X.P w= .ok (.value v') w':=by
   intro v' w' hr;simp[execOp,ho,resolve,hu,hv,invoke,builtin,hr]
  obtain⟨n1,n2,rG⟩:=DW hy wJ (fun k hk=>hU k (Zc _ hk)) hc e2;rcases rG with⟨c0,rfl,rfl⟩|⟨ad,cap,ys,rfl,y1,y2,y3,y4⟩
  ·have cr:=l6 (P:=X.P) (w:=w) t o.type e ie sz tk.und tke.info (.slice none 0 0) 0 [] .nil c0;obtain⟨c',q1,q2⟩:=hc.new_row (w':=w) hk' tQ e sz [] (.slice none 0 0) [] (Below.refl _ _) .nil (fun b h=>by cases h) ⟨rfl,fun j d x h=>by simp at h⟩ (by simp) (by simp);exact⟨_,_,_,Dl _ _ cr,.inl rfl,c',q1,q2⟩
  ·obtain⟨v',w',cr,zc,DK,SA⟩:=qz (P:=X.P) (w:=w) t o.type e ie ze sz te.bytes tk.und tke.info tke.zero (tke.size.trans cP) tke.bytes L1 wJ (.slice none 0 0) 0 [] .nil ad news.length cap ys y1 y2 y3 (by unfold maxLen;omega) (by rw[XG];exact MO);have hx':dw w w':=⟨DK.os,DK.tape,DK.output,DK.size,fun b hb=>DK.block b hb (fun h=>by cases h)⟩;obtain⟨c',q1,q2⟩:=hc.new_row (w':=w') hk' tQ e sz news v' ys hx' (by rw[XG,Ya]at zc;exact zc) (fun b hb=>by
    rcases SA with h0|h0
    ·rw[h0]at hb;cases hb
    ·exact h0 b hb) y4 n1 n2
   exact⟨_,_,_,Dl _ _ cr,.inl rfl,c',q1,q2⟩
omit hd in
theorem DX {α:Type}{l m xs:List α}{off:Nat}(h:off+xs.length≤l.length):ay (l++m) off xs=ay l off xs++m:=by
 unfold ay;rw[Yl (by omega),List.drop_append_of_le_length (by omega)];simp
omit hd in
theorem A4 {α:Type}{l m xs:List α}{off:Nat}:ay (l++m) (l.length+off) xs=l++ay m off xs:=by
 unfold ay;rw[List.take_append,_d];rw[XN (by omega),L' (by omega)];simp only[Ya,X3];rw[show l.length+off - l.length=off by omega,show l.length+off+xs.length - l.length=off+xs.length by omega]
omit hd in
theorem th {α:Type}{sz:Nat}:∀{rows:List (List α)},(∀r∈rows,r.length=sz)→∀{i j:Nat}{row ps:List α},rows[i]? =some row→j+ps.length≤sz→(rows.set i (ay row j ps)).flatten=ay rows.flatten (i*sz+j) ps
 |[],_,i,j,row,ps,h,_=>by simp at h
 |r::rows,hl,0,j,row,ps,h,hj=>by
  simp at h;subst h;rw[Xv,YU,YU,Nat.zero_mul,XG,DX (by rw[hl r (by simp)];exact hj)]
 |r::rows,hl,i+1,j,row,ps,h,hj=>by
  rw[Xx,YU,YU,th (fun r hr=>hl r (by simp[hr])) (by simpa using h) hj];have hr:=hl r (by simp);rw[show (i+1)*sz+j=r.length+(i*sz+j) by rw[YY];omega,A4]
omit hd in
theorem uH {α:Type}{l xs:List α}{off n:Nat}(h:off+xs.length≤n)(hn:n≤l.length):(ay l off xs).take n=ay (l.take n) off xs:=by
 apply Yj;intro j;rw[ip (by rw[Xp];omega)];by_cases hj:j < n
 ·rw[XS hj,ip (by omega),XS hj]
 ·rw[XT (by rw[Xp];omega),if_neg (by omega),XT (by rw[Xp];omega)]
theorem DY {t k g sz i j E:Nat}{x y:Operand}{ti:TI}{rows:List (List PV)}{row:List PV}(ho:o.op= .store t x y)(sP:o.dst=none)(ht:aT X.P t=some ti)(hx:ev s x= .rp k g sz i j)(hk:s.heap k= .row E sz g rows)(bY:rows[i]? =some row)(hy:xY (ev s y)=true)
 (hl:(cR (ev s y)).length=ti.size) (cP:j+ti.size≤sz):bI X ops s o {pv:= .any,eff:=[(k,.row E sz g (rows.set i (ay row j (cR (ev s y)))))],touch:=[k]}:=
 d4 hd (fun kc h=>by simp at h;subst h;simp) fun s' he hU a w c hc=>by
  have e1:=bM hc x;rw[he x (by simp[ho,Op.operands]),hx]at e1;have e2:=bM hc y;rw[he y (by simp[ho,Op.operands])]at e2;obtain⟨r1,r2⟩:=kr e2 hy;have eP:=bG.one r1 r2;have hk':s'.heap k= .row E sz g rows:=by rw[hU k (by simp)];exact hk
  have bc:=hc.chunk k;rw[hk']at bc;generalize hu:a.eval x=u at e1;cases e1 with
  |rp _ _ _ _ _ b n cap hb=>
   have bB:rows≠[]:=fun e=>by rw[e]at bY;cases bY
   obtain⟨cur,xs,q1,q2,q3,q4,q5,q6,q7,q8,q9,q10,q11⟩:=ed bc hb bB;have hi:i < rows.length:=(Xn.1 bY).1;have Au:(i+1)*sz≤rows.length*sz:=Ys sz hi;rw[YY]at Au;obtain⟨ii,d,z,tk⟩:=ig ht;have rF:(a.eval y).cells.size=ti.size:=by have:=r1.1;simp at this;omega
   have dP:=run_storeCells_at X.P b (i*sz+j) E (a.eval y).cells.toList 0 cur w q1 (by simp;omega) eP;have pk:(storeCells ⟨b,i*sz+j,none⟩ (a.eval y).cells.toList).run X.P w= .ok () (w.setRow b (ay cur.toList (i*sz+j) (a.eval y).cells.toList).toArray):=by
    rw[dP];simp[ay]
   have cr:(Instr.storeAt t (a.eval x) (a.eval y)).run X.P w= .ok () (w.setRow b (ay cur.toList (i*sz+j) (a.eval y).cells.toList).toArray):=by
    rw[hu];simp[Instr.storeAt,Instr.sureAddr,storeVar,sizeOf,typeInfo,tk.info,tk.size,rF,pk]
   have Dm:0 < cap:=by omega
   have bU:(ay cur.toList (i*sz+j) (a.eval y).cells.toList).length=cur.size:=by rw[bj (by simp;omega)];simp
   have L3:xs=cur.toList.take (rows.length*sz):=by
    apply Yj;intro j';by_cases hj':j' < rows.length*sz
    ·rw[XS hj'];exact(q4 j' hj').symm.trans (by simp)
    ·rw[XT (by omega),XT (by rw[Xp];omega)]
   have o9:(ay xs (i*sz+j) (a.eval y).cells.toList).length=rows.length*sz:=by rw[bj (by simp;omega)];exact q3
   have gM:=hc.put_row (w':=w.setRow b (ay cur.toList (i*sz+j) (a.eval y).cells.toList).toArray) (rows':=rows.set i (ay row j (cR (ev s y)))) (xs':=ay xs (i*sz+j) (a.eval y).cells.toList) hk' hb
    ⟨rfl,rfl,rfl,by simp[ZE],fun b' _ L4=>by
     rw[dh Dm]at L4;simp only[ZE,Y9];rw[if_neg (fun e=>L4 (by rw[e]))]⟩
    (by
     rw[YV,q7];exact .row b rows.length cap _ _ Dm (setRow_heap w b _ _ E _ q1) (by omega) q9 (by simp[bU,q11]) o9 (by
      rw[Y1,uH (by simp;omega) (by simp;omega),←L3]))
    (by rw[th q5 bY (by omega)];exact lY q2 r1 (by rw[q2.1];omega))
    (fun r hr=>by
     rcases Y4 hr with h|rfl
     ·exact q5 r h
     ·rw[bj (by rw[q5 row (Xl bY)];omega)];exact q5 row (Xl bY))
    (fun r hr d hd=>by
     rcases Y4 hr with h|rfl
     ·exact q6 r h d hd
     ·exact(ku hd).elim (q6 row (Xl bY) d) (r2 d))
   refine⟨.skip,undef,_,?_,.inr ⟨rfl,rfl⟩,c,gM,.any _⟩;simp only[execOp,ho];rw[Sem.run_bind,cr];rfl
end
section
variable {X:Cfg}{ops:Array Oper}{s:FS}{o:Oper}(hd:∀d,o.dst=some d→d < X.n)
theorem xc {α:Type}{sz:Nat}{rows news:List (List α)}(h:∀r∈rows,r.length=sz)(hn:∀r∈news,r.length=sz)(i:Nat):(ay rows i news).flatten=ay rows.flatten (i*sz) news.flatten:=by
 unfold ay;rw[B',B',iI h,j9 h,cN hn,ZQ]
theorem xd (z:Array Value)(n:Nat):(Builtin.zeroCells z n).toList=(XV n z.toList).flatten:=by
 have hl:(Builtin.zeroCells z n).toList.length=n*z.size:=by simp[Builtin.zeroCells]
 have hr:∀r∈XV n z.toList,r.length=z.size:=fun r hr=>by rw[Zv hr];simp
 have Gu:(XV n z.toList).flatten.length=n*z.size:=by rw[cN hr];simp
 apply Yj;intro i;by_cases hi:i < n*z.size
 ·have h0:0 < z.size:=by
   rcases ZJ z.size with h|h
   ·rw[h]at hi;omega
   ·exact h
  have e1:i / z.size < n:=Zw (by rw[Zp];exact hi);have e2:i % z.size < z.size:=Y' _ h0;have e3:i / z.size*z.size+i % z.size=i:=by rw[Zp];exact ZN i z.size
  have e4:=cB hr (i / z.size) (i % z.size) e2;rw[e3,ZX,if_pos e1]at e4;rw[e4];simp[Builtin.zeroCells,hi,e2]
 ·rw[XT (by omega),XT (by omega)]
theorem RealC.write_rows {a:Act}{w:World}{c:Cx}(hc:RealC X s a w c){k E sz g:Nat}{rows:List (List PV)}(hk:s.heap k= .row E sz g rows){b n cap:Nat}(hb:c.ov k g=some (.slice (some ⟨b,0,none⟩) n cap))(bB:rows≠[])
 (i:Nat) (news:List (List PV)) (ys:List Value) (hr:bG c w news.flatten ys) (hi:i+news.length≤rows.length) (OL:∀r∈news,r.length=sz) (VO:∀r∈news,∀d∈r,d.one=true):
 ∃w',(storeCells ⟨b,i*sz,none⟩ ys).run X.P w= .ok () w'∧RealC X {s with heap:=cE [(k,.row E sz g (ay rows i news))] s.heap} a w' c:=by
 have bc:=hc.chunk k;rw[hk]at bc;obtain⟨cur,xs,q1,q2,q3,q4,q5,q6,q7,q8,q9,q10,q11⟩:=ed bc hb bB;have eP:=bG.one hr (fun d hd=>by obtain⟨r,hr,hd⟩:=ZW.1 hd;exact VO r hr d hd);have rF:ys.length=news.length*sz:=by rw[←hr.1,cN OL]
 have Au:(i+news.length)*sz≤rows.length*sz:=Ys sz hi;rw[ZQ]at Au;have dP:=run_storeCells_at X.P b (i*sz) E ys 0 cur w q1 (by simp;omega) eP;have pk:(storeCells ⟨b,i*sz,none⟩ ys).run X.P w= .ok () (w.setRow b (ay cur.toList (i*sz) ys).toArray):=by
  rw[dP];simp[ay]
 have Dm:0 < cap:=by
  have:0 < rows.length:=Zd.2 bB;omega
 have bU:(ay cur.toList (i*sz) ys).length=cur.size:=by rw[bj (by simp;omega)];simp
 have L3:xs=cur.toList.take (rows.length*sz):=by
  apply Yj;intro j';by_cases hj':j' < rows.length*sz
  ·rw[XS hj'];exact(q4 j' hj').symm.trans (by simp)
  ·rw[XT (by omega),XT (by rw[Xp];omega)]
 have o9:(ay xs (i*sz) ys).length=rows.length*sz:=by rw[bj (by omega)];exact q3
 refine⟨_,pk,hc.put_row (rows':=ay rows i news) (xs':=ay xs (i*sz) ys) hk hb ⟨rfl,rfl,rfl,by simp[ZE],fun b' _ L4=>by
  rw[dh Dm]at L4;simp only[ZE,Y9];rw[if_neg (fun e=>L4 (by rw[e]))]⟩ ?_ ?_ ?_ ?_⟩
 ·rw[bj hi,q7];exact .row b rows.length cap _ _ Dm (setRow_heap w b _ _ E _ q1) (by omega) q9 (by simp[bU,q11]) o9 (by
   rw[Y1,uH (by omega) (by simp;omega),←L3])
 ·rw[xc q5 OL];exact lY q2 hr (by rw[q2.1,cN OL];omega)
 ·exact fun r hr=>(ku hr).elim (q5 r) (OL r)
 ·exact fun r hr=>(ku hr).elim (q6 r) (VO r)
include hd
theorem zu {t e k sz g n:Nat}{x y:Operand}{ti te:TI}{rows news:List (List PV)}{tyy:List Nat}(ho:o.op= .call {callee:= .builtin .append,args:=#[x,y],argTypes:=#[t,t]})(ht:aT X.P t=some ti)(he':ti.elem=some e)(gL:aT X.P e=some te)
 (cP:te.size=sz) (wJ:0 < sz) (hx:ev s x= .osl k g sz 0 n) (hk:s.heap k= .row e sz g rows) (bB:rows≠[]) (hy:SrcP s sz (ev s y) news tyy) (dB:n+news.length≤rows.length):
 bI X ops s o {pv:= .osl k g sz 0 (n+news.length),eff:=[(k,.row e sz g (ay rows n news))],touch:=k::tyy}:=
 d4 hd (fun kc h=>by simp at h;subst h;simp) fun s' he hU a w c hc=>by
  have e1:=bM hc x;rw[he x (by simp[ho,Op.operands,Call.operands]),hx]at e1;have e2:=bM hc y;rw[he y (by simp[ho,Op.operands,Call.operands])]at e2;have hk':s'.heap k= .row e sz g rows:=by rw[hU k (by simp)];exact hk
  obtain⟨i,d,z,tk⟩:=ig ht;obtain⟨ie,de,ze,tke⟩:=ig gL;have j4:d= .slice e:=by
   have:=tk.elem;rw[he']at this;cases d<;>simp[gm]at this;rw[this]
  subst j4;generalize hu:a.eval x=u at e1;generalize hv:a.eval y=v at e2;obtain⟨n1,n2,rG⟩:=DW hy wJ (fun k hk=>hU k (Zc _ hk)) hc e2;cases e1 with
  |osl _ _ _ _ _ b oo N cap ee hn Pv L5=>
   have za:0 < rows.length:=Zd.2 bB;have bc:=hc.chunk k;rw[hk']at bc;obtain⟨cur,xs,q1,q2,q3,q4,q5,q6,q7,q8,q9,q10,q11⟩:=ed bc ee bB;obtain rfl:oo=0:=by rw[L5 (by omega)];simp
   rcases rG with⟨c0,rfl,rfl⟩|⟨ad,cap',ys,rfl,rF,dy,eP,ny⟩
   ·obtain⟨w',dP,mG⟩:=hc.write_rows hk' ee bB n [] [] ⟨rfl,fun j d x h=>by simp at h⟩ (by simpa using dB) (fun r h=>by simp at h) (fun r h=>by simp at h);have hw:w'=w:=by simpa[storeCells]using dP.symm
    subst hw;refine⟨_,.slice (some ⟨b,0,none⟩) n (cap - 0),w',?_,.inl rfl,c,mG,?_⟩
    ·simp[execOp,ho,resolve,hu,hv,invoke,builtin,Builtin.append_,run_underlying tk.und,sizeOf,typeInfo,tke.info,Builtin.lenOf,Builtin.firstCells,storeCells,(by omega:n≤cap)]
    ·exact .osl k g sz 0 n b 0 N cap ee (by omega) Pv (fun _=>by simp)
   ·obtain⟨w',dP,mG⟩:=hc.write_rows hk' ee bB n news ys ny dB n1 n2;have Uj:=run_firstCells_some (P:=X.P) w sz news.length ad news.length cap' ys rF dy;refine⟨_,.slice (some ⟨b,0,none⟩) (n+news.length) (cap - 0),w',?_,.inl rfl,c,mG,?_⟩
    ·have jc:n+news.length≤cap:=by omega
     have SB:∀ty,(Builtin.append_ #[t,t] ty #[.slice (some ⟨b,0,none⟩) n (cap - 0),.slice (some ad) news.length cap']).run X.P w= .ok (.slice (some ⟨b,0,none⟩) (n+news.length) (cap - 0)) w':=by
      intro ty;simp[Builtin.append_,run_underlying tk.und,sizeOf,typeInfo,tke.info,tke.size,cP,Builtin.lenOf,jc,Uj,Addr.add_lit,dP]
     simp only[Yo]at SB;simp[execOp,ho,resolve,hu,hv,invoke,builtin,SB]
    ·exact .osl k g sz 0 _ b 0 N cap ee (by omega) Pv (fun _=>by simp)
theorem A5 {t e k sz g st n:Nat}{x:Operand}{ti te:TI}{rows:List (List PV)}(ho:o.op= .call {callee:= .builtin .clear,args:=#[x],argTypes:=#[t]})(ht:aT X.P t=some ti)(he':ti.elem=some e)(gL:aT X.P e=some te)
 (cP:te.size=sz) (hx:ev s x= .osl k g sz st n) (hk:s.heap k= .row e sz g rows) (bB:rows≠[]) (dB:st+n≤rows.length):
 bI X ops s o {pv:= .d (.v (.tuple #[])),eff:=[(k,.row e sz g (ay rows st (XV n (te.zero.map fun x=> .d (.v x)))))],touch:=[k]}:=
 d4 hd (fun kc h=>by simp at h;subst h;simp) fun s' he hU a w c hc=>by
  have e1:=bM hc x;rw[he x (by simp[ho,Op.operands,Call.operands]),hx]at e1;have hk':s'.heap k= .row e sz g rows:=by rw[hU k (by simp)];exact hk
  obtain⟨i,d,z,tk⟩:=ig ht;obtain⟨ie,de,ze,tke⟩:=ig gL;have j4:d= .slice e:=by
   have:=tk.elem;rw[he']at this;cases d<;>simp[gm]at this;rw[this]
  subst j4;generalize hu:a.eval x=u at e1;have Pw:te.zero.length=sz:=by rw[tke.zsize,cP]
  have rH:∀x∈te.zero,x.oneCell'=true:=tke.one;cases e1 with
  |osl _ _ _ _ _ b oo N cap ee hn Pv L5=>
   cases n with
   |zero=>
    have gM:ay rows st (XV 0 (te.zero.map fun x=>PV.d (.v x)))=rows:=by simp[ay]
    refine⟨_,.tuple #[],w,?_,.inl rfl,c,?_,.d _ _ (.v _)⟩
    ·simp[execOp,ho,resolve,hu,invoke,builtin,Builtin.clear_,run_underlying tk.und]
    ·rw[gM];have:({env:=s'.env,heap:=cE [(k,.row e sz g rows)] s'.heap}:FS)=s':=by
      cases s' with
      |mk env heap=>
       simp only[FS.mk.injEq,true_and];funext k';rw[qt];show (if k'=k then _ else heap k')=heap k';split
       ·rename_i e;subst e;exact hk'.symm
       ·rfl
     rw[this];exact hc
   |succ n=>
    have za:0 < rows.length:=Zd.2 bB;obtain rfl:oo=st*sz:=L5 (by omega);obtain⟨w',dP,mG⟩:=hc.write_rows hk' ee bB st (XV (n+1) (te.zero.map fun x=> .d (.v x))) (XV (n+1) te.zero).flatten
     ⟨by simp[List.map_replicate],fun j d x hj hx=>by
      have e2:(XV (n+1) (te.zero.map fun x=>PV.d (.v x))).flatten=(XV (n+1) te.zero).flatten.map fun x=>PV.d (.v x):=by rw[List.map_flatten,List.map_replicate]
      rw[e2,Xz,hx]at hj;cases hj;exact .d _ _ (.v _)⟩
     (by simpa using dB) (fun r hr=>by rw[Zv hr];simpa using Pw)
     (fun r hr d hd=>by
      rw[Zv hr]at hd;obtain⟨x,hx,rfl⟩:=XQ.1 hd;exact rH x hx)
    refine⟨_,.tuple #[],w',?_,.inl rfl,c,mG,.d _ _ (.v _)⟩;have Px:(Builtin.zeroCells ze.cells (n+1)).toList=(XV (n+1) te.zero).flatten:=by
     rw[←tke.zcells];exact xd ze.cells (n+1)
    simp[execOp,ho,resolve,hu,invoke,builtin,Builtin.clear_,run_underlying tk.und,zeroValue,typeInfo,tke.info,tke.zero,Px,dP]
def Fs:Option PV→Option Nat
 |none=>some 0
 |some (.d (.v (.int _ n)))=>if 0≤n then some n.toNat else none
 |_=>none
def Ft (len:Nat):Option PV→Option Nat
 |none=>some len
 |some (.d (.v (.int _ n)))=>if 0≤n then some n.toNat else none
 |_=>none
omit hd in
theorem nR {P:Program}{t e sz:Nat}{ie:TypeInfo}(ht:P.underlying t=some (.slice e))(hi:P.info? e=some ie)(cP:ie.size=sz)(w:World)(a:Option Addr)(len cap:Nat)(lo hi:Option Value)(l h:Nat)
 (iZ:(lo=none∧l=0)∨∃k,lo=some (.int k l)) (jX:(hi=none∧h=len)∨∃k,hi=some (.int k h)) (h1:l≤h) (h2:h≤cap):
 (Instr.sliceAt t (.slice a len cap) lo hi none).run P w= .ok (.slice (if cap=l then a else a.map (·.add (l*sz))) (h - l) (cap - l)) w:=by
 have e1:(0:Int)≤(l:Int):=by omega
 have e2:(0:Int)≤(h:Int):=by omega
 have e3:(l:Int)≤(h:Int):=by omega
 have e4:(h:Int)≤(cap:Int):=by omega
 rcases iZ with⟨rfl,rfl⟩|⟨k,rfl⟩<;>rcases jX with⟨rfl,rfl⟩|⟨k',rfl⟩<;>
  simp[Instr.sliceAt,Instr.slice,run_underlying ht,Instr.sliceBounds,Instr.sliceBound,asIntOf,sizeOf,typeInfo,hi,cP,e1,e2,e3,e4,h1,h2,_g.2 h1,_g.2 h2,_g.2 (Yy h1 h2),Yy h1 h2]
omit hd in
theorem GP {P:Program}{t e sz:Nat}{ie:TypeInfo}(ht:P.underlying t=some (.slice e))(hi:P.info? e=some ie)(cP:ie.size=sz)(w:World)(a:Option Addr)(len cap:Nat)(k1 k2 k3:IntKind)(l h m:Nat)
 (h1:l≤h) (h2:h≤m) (h3:m≤cap):∃v,(Instr.sliceAt t (.slice a len cap) (some (.int k1 l)) (some (.int k2 h)) (some (.int k3 m))).run P w= .ok v w:=by
 have e1:(0:Int)≤(l:Int):=by omega
 have e2:(0:Int)≤(h:Int):=by omega
 have e3:(l:Int)≤(h:Int):=by omega
 have e4:(h:Int)≤(m:Int):=by omega
 have e5:(0:Int)≤(m:Int):=by omega
 have e6:(m:Int)≤(cap:Int):=by omega
 simp[Instr.sliceAt,Instr.slice,run_underlying ht,Instr.sliceBounds,Instr.sliceBound,asIntOf,sizeOf,typeInfo,hi,cP,e1,e2,e3,e4,e5,e6,h1,h2,h3]
omit hd in
theorem nS {s':FS}{a:Act}{w:World}{c:Cx}(hc:RealC X s' a w c){lo:Option Operand}{l:Nat}(h:Fs (lo.map (ev s'))=some l):((lo.map a.eval)=none∧l=0)∨∃k,lo.map a.eval=some (.int k l):=by
 cases lo with
 |none=>exact .inl ⟨rfl,by simpa[Fs]using h.symm⟩
 |some x=>
  right;simp only[Ye]at h ⊢;unfold Fs at h;split at h
  ·rename_i e;cases e
  ·rename_i k n e;have:=cZ hc (XX.inj e);split at h
   ·rename_i h0;have h:=XX.inj h;exact⟨k,by rw[this,←h,ZV h0]⟩
   ·cases h
  ·cases h
omit hd in
theorem nT {s':FS}{a:Act}{w:World}{c:Cx}(hc:RealC X s' a w c){lo:Option Operand}{len l:Nat}(h:Ft len (lo.map (ev s'))=some l):((lo.map a.eval)=none∧l=len)∨∃k,lo.map a.eval=some (.int k l):=by
 cases lo with
 |none=>exact .inl ⟨rfl,by simpa[Ft]using h.symm⟩
 |some x=>
  right;simp only[Ye]at h ⊢;unfold Ft at h;split at h
  ·rename_i e;cases e
  ·rename_i k n e;have:=cZ hc (XX.inj e);split at h
   ·rename_i h0;have h:=XX.inj h;exact⟨k,by rw[this,←h,ZV h0]⟩
   ·cases h
  ·cases h
omit hd in
theorem uI {s':FS}{lo:Option Operand}(h:∀x,lo=some x→ev s' x=ev s x):lo.map (ev s')=lo.map (ev s):=by
 cases lo with
 |none=>rfl
 |some x=>simp[h x rfl]
theorem GQ {t e sz:Nat}{x:Operand}{lo hi:Option Operand}{ti te:TI}{rows:List (List D)}{l h:Nat}(ho:o.op= .slice t x lo hi none)(ht:aT X.P t=some ti)(he':ti.elem=some e)(gL:aT X.P e=some te)(cP:te.size=sz)
 (hx:ev s x= .d (.sl sz rows)) (iZ:Fs (lo.map (ev s))=some l) (jX:Ft rows.length (hi.map (ev s))=some h) (h1:l≤h) (h2:h≤rows.length):bI X ops s o {pv:= .d (.sl sz ((rows.take h).drop l))}:=
 aM hd fun s' he _ a w c hc=>by
  have e1:=bM hc x;rw[he x (by simp[ho,Op.operands]),hx]at e1;rw[←uI (s:=s) (s':=s') (fun y hy=>he y (by simp[ho,Op.operands,hy]))]at iZ jX;have b1:=nS hc iZ;have b2:=nT hc jX;generalize hu:a.eval x=u at e1;have e1:=co e1;obtain⟨i,d,z,tk⟩:=ig ht;obtain⟨ie,de,ze,tke⟩:=ig gL;have j4:d= .slice e:=by
   have:=tk.elem;rw[he']at this;cases d<;>simp[gm]at this;rw[this]
  subst j4;cases e1 with
  |nil _ ao cap hm=>
   have hr:=nR tk.und tke.info (tke.size.trans cP) w ao 0 cap _ _ l h b1 b2 h1 (by simp at h2;omega);refine⟨_,by simp only[execOp,ho,hu,Zg];rw[Sem.run_bind,hr];rfl,.d _ _ ?_⟩;simp only[XZ,Nat.le_zero]at h2;subst h2;simp only[Z4,List.drop_nil];rw[Nat.zero_sub];exact .nil _ _ _ (by omega)
  |sl _ _ b off cap f hM hb fS hm hr h1' dy bA=>
   have hr':=nR tk.und tke.info (tke.size.trans cP) w (some ⟨b,off,none⟩) rows.length cap _ _ l h b1 b2 h1 (by omega);refine⟨_,by simp only[execOp,ho,hu,Zg];rw[Sem.run_bind,hr'];rfl,.d _ _ ?_⟩;have hl:((rows.take h).drop l).length=h - l:=by rw[XI,Xp];omega
   by_cases Uk:cap=l
   ·obtain rfl:h=l:=by omega
    have:(rows.take h).drop h=[]:=X9 (by rw[hl];omega);rw[this,YG];exact .nil _ _ _ (by omega)
   ·rw[if_neg Uk,←hl];simp only[Ye,Addr.add_lit];have OK:∀i row,((rows.take h).drop l)[i]? =some row→rows[l+i]? =some row:=by
     intro i row hi;rw[Yk]at hi;have:=(Xn.1 hi).1;rw[Xp]at this;rwa [XS (by omega)]at hi
    refine .sl sz _ b (off+l*sz) (cap - l) (fun i j=>f (l+i) j) hM hb (by omega) (by omega) (fun r RL=>hr r (Yg (Yd RL))) (fun r RL=>h1' r (Yg (Yd RL))) (fun i j hi hj=>?_) (fun i j row d hi hj=>bA _ _ row d (OK i row hi) hj);have:=dy (l+i) j (by omega) hj;rw[ZQ]at this;rw[←this];congr 2;omega
theorem A6 {t e k g sz:Nat}{x:Operand}{lo hi:Option Operand}{ti te:TI}{rows:List (List PV)}{l h:Nat}(ho:o.op= .slice t x lo hi none)(ht:aT X.P t=some ti)(he':ti.elem=some e)(gL:aT X.P e=some te)(cP:te.size=sz)
 (hx:ev s x= .own k g) (hk:s.heap k= .row e sz g rows) (bB:rows≠[]) (iZ:Fs (lo.map (ev s))=some l) (jX:Ft rows.length (hi.map (ev s))=some h) (h1:l≤h) (h2:h≤rows.length):bI X ops s o {pv:= .osl k g sz l (h - l),touch:=[k]}:=
 aM hd fun s' he hU a w c hc=>by
  have e1:=bM hc x;rw[he x (by simp[ho,Op.operands]),hx]at e1;rw[←uI (s:=s) (s':=s') (fun y hy=>he y (by simp[ho,Op.operands,hy]))]at iZ jX;have b1:=nS hc iZ;have b2:=nT hc jX;have bc:=hc.chunk k;rw[hU k (by simp),hk]at bc;generalize hu:a.eval x=u at e1;obtain⟨i,d,z,tk⟩:=ig ht;obtain⟨ie,de,ze,tke⟩:=ig gL;have j4:d= .slice e:=by
   have:=tk.elem;rw[he']at this;cases d<;>simp[gm]at this;rw[this]
  subst j4;cases e1 with
  |own _ _ _ ee AN=>
   obtain⟨b,cap,rfl⟩:=lZ bc ee bB;obtain⟨cur,xs,q1,q2,q3,q4,q5,q6,q7,q8,q9,q10,q11⟩:=ed bc ee bB;have hr':=nR tk.und tke.info (tke.size.trans cP) w (some ⟨b,0,none⟩) rows.length cap _ _ l h b1 b2 h1 (by omega);refine⟨_,by simp only[execOp,ho,hu,Zg];rw[Sem.run_bind,hr'];rfl,?_⟩;by_cases fS:cap=l
   ·rw[if_pos fS];exact .osl k g sz l (h - l) b 0 _ cap ee (by omega) q10 (by omega)
   ·rw[if_neg fS];simp only[Ye,Addr.add_lit,XG];exact .osl k g sz l (h - l) b _ _ cap ee (by omega) q10 (fun _=>rfl)
theorem zw {t e k g sz:Nat}{x:Operand}{lo hi:Option Operand}{ti te:TI}(ho:o.op= .slice t x lo hi none)(ht:aT X.P t=some ti)(he':ti.elem=some e)(gL:aT X.P e=some te)(cP:te.size=sz)
 (hx:ev s x= .own k g) (hk:s.heap k= .row e sz g []) (iZ:Fs (lo.map (ev s))=some 0) (jX:Ft 0 (hi.map (ev s))=some 0):bI X ops s o {pv:= .any,touch:=[k]}:=
 aM hd fun s' he hU a w c hc=>by
  have e1:=bM hc x;rw[he x (by simp[ho,Op.operands]),hx]at e1;rw[←uI (s:=s) (s':=s') (fun y hy=>he y (by simp[ho,Op.operands,hy]))]at iZ jX;have b1:=nS hc iZ;have b2:=nT hc jX;have bc:=hc.chunk k;rw[hU k (by simp),hk]at bc;generalize hu:a.eval x=u at e1;obtain⟨i,d,z,tk⟩:=ig ht;obtain⟨ie,de,ze,tke⟩:=ig gL;have j4:d= .slice e:=by
   have:=tk.elem;rw[he']at this;cases d<;>simp[gm]at this;rw[this]
  subst j4;cases e1 with
  |own _ _ _ ee AN=>
   cases bc with
   |row _ _ _ _ u' xs hu' cX hr OJ h1 hg=>
    rw[ee]at hu';cases hu';obtain⟨ao,cap,rfl⟩:∃ao cap,u= .slice ao 0 cap:=by
     simp only[XZ]at cX;generalize hz:0=z at cX;cases cX with
     |nil=>exact⟨_,_,rfl⟩
     |zero=>exact⟨_,_,rfl⟩
     |row=>subst hz;exact⟨_,_,rfl⟩
    have hr':=nR tk.und tke.info (tke.size.trans cP) w ao 0 cap _ _ 0 0 b1 b2 (XB _) (XD _);exact⟨_,by simp only[execOp,ho,hu,Zg];rw[Sem.run_bind,hr'];rfl,.any _⟩
theorem A7 {t e k g sz st n:Nat}{x:Operand}{lo hi:Option Operand}{ti te:TI}{rows:List (List PV)}{l h:Nat}(ho:o.op= .slice t x lo hi none)(ht:aT X.P t=some ti)(he':ti.elem=some e)(gL:aT X.P e=some te)(cP:te.size=sz)
 (hx:ev s x= .osl k g sz st n) (hk:s.heap k= .row e sz g rows) (bB:rows≠[]) (iZ:Fs (lo.map (ev s))=some l) (jX:Ft n (hi.map (ev s))=some h) (h1:l≤h) (h2:st+h≤rows.length):bI X ops s o {pv:= .osl k g sz (st+l) (h - l),touch:=[k]}:=
 aM hd fun s' he hU a w c hc=>by
  have e1:=bM hc x;rw[he x (by simp[ho,Op.operands]),hx]at e1;rw[←uI (s:=s) (s':=s') (fun y hy=>he y (by simp[ho,Op.operands,hy]))]at iZ jX;have b1:=nS hc iZ;have b2:=nT hc jX;have bc:=hc.chunk k;rw[hU k (by simp),hk]at bc;generalize hu:a.eval x=u at e1;obtain⟨i,d,z,tk⟩:=ig ht;obtain⟨ie,de,ze,tke⟩:=ig gL;have j4:d= .slice e:=by
   have:=tk.elem;rw[he']at this;cases d<;>simp[gm]at this;rw[this]
  subst j4;cases e1 with
  |osl _ _ _ _ _ b oo N cap ee hn Pv L5=>
   obtain⟨cur,xs,q1,q2,q3,q4,q5,q6,q7,q8,q9,q10,q11⟩:=ed bc ee bB;have hr':=nR tk.und tke.info (tke.size.trans cP) w (some ⟨b,oo,none⟩) n (cap - st) _ _ l h b1 b2 h1 (by omega);refine⟨_,by simp only[execOp,ho,hu,Zg];rw[Sem.run_bind,hr'];rfl,?_⟩;rw[Nat.sub_sub];by_cases fS:cap - st=l
   ·rw[if_pos fS];exact .osl k g sz (st+l) (h - l) b oo _ cap ee (by omega) q10 (by omega)
   ·rw[if_neg fS];simp only[Ye,Addr.add_lit];exact .osl k g sz (st+l) (h - l) b _ _ cap ee (by omega) q10 (fun hlt=>by rw[L5 (by omega),ZQ])
theorem GR {t e k g sz:Nat}{x y1 y2 y3:Operand}{ti te:TI}{rows:List (List PV)}{k1 k2 k3:IntKind}{n1 n2 n3:Int}(ho:o.op= .slice t x (some y1) (some y2) (some y3))(ht:aT X.P t=some ti)(he':ti.elem=some e)(gL:aT X.P e=some te)(cP:te.size=sz)
 (hx:ev s x= .own k g) (hk:s.heap k= .row e sz g rows) (bB:rows≠[]) (OM:ev s y1= .d (.v (.int k1 n1))) (MP:ev s y2= .d (.v (.int k2 n2))) (WM:ev s y3= .d (.v (.int k3 n3))) (h0:0≤n1) (h1:n1≤n2) (h2:n2≤n3) (h3:n3≤(rows.length:Int)):
 bI X ops s o {pv:= .any,touch:=[k]}:=
 aM hd fun s' he hU a w c hc=>by
  have e1:=bM hc x;rw[he x (by simp[ho,Op.operands]),hx]at e1;have b1:=cZ hc ((he y1 (by simp[ho,Op.operands])).trans OM);have b2:=cZ hc ((he y2 (by simp[ho,Op.operands])).trans MP);have b3:=cZ hc ((he y3 (by simp[ho,Op.operands])).trans WM);have bc:=hc.chunk k;rw[hU k (by simp),hk]at bc;generalize hu:a.eval x=u at e1;obtain⟨i,d,z,tk⟩:=ig ht;obtain⟨ie,de,ze,tke⟩:=ig gL;have j4:d= .slice e:=by
   have:=tk.elem;rw[he']at this;cases d<;>simp[gm]at this;rw[this]
  subst j4;cases e1 with
  |own _ _ _ ee AN=>
   obtain⟨b,cap,rfl⟩:=lZ bc ee bB;obtain⟨cur,xs,q1,q2,q3,q4,q5,q6,q7,q8,q9,q10,q11⟩:=ed bc ee bB;obtain⟨v,hr⟩:=GP tk.und tke.info (tke.size.trans cP) w (some ⟨b,0,none⟩) rows.length cap k1 k2 k3 n1.toNat n2.toNat n3.toNat (by omega) (by omega) (by omega);rw[ZV h0,ZV (by omega),ZV (by omega)]at hr;exact⟨v,by simp only[execOp,ho,hu,Ye,b1,b2,b3];rw[Sem.run_bind,hr];rfl,.any _⟩
theorem GS {t k g sz st n:Nat}{x:Operand}{e:Nat}{ti:TI}(ho:o.op= .call {callee:= .builtin .len,args:=#[x],argTypes:=#[t]})(ht:aT X.P t=some ti)(he':ti.elem=some e)(hx:ev s x= .osl k g sz st n):
 bI X ops s o {pv:= .d (.v (.int .i64 n))}:=
 aM hd fun s' he _ a w c hc=>by
  have e1:=bM hc x;rw[he x (by simp[ho,Op.operands,Call.operands]),hx]at e1;generalize hu:a.eval x=u at e1;obtain⟨i,dd,z,tk⟩:=ig ht;have j4:dd= .slice e:=by
   have:=tk.elem;rw[he']at this;cases dd<;>simp[gm]at this;rw[this]
  subst j4;cases e1 with
  |osl=>
   refine⟨.int .i64 n,?_,.d _ _ (.v _)⟩;simp[execOp,ho,hu,resolve,invoke,builtin,Builtin.len_,run_underlying tk.und,goInt]
theorem A8 {t e k g sz st m:Nat}{x y:Operand}{ti te:TI}{kd:IntKind}{n:Int}(ho:o.op= .indexAddr t x y)(ht:aT X.P t=some ti)(he':ti.elem=some e)(gL:aT X.P e=some te)(cP:te.size=sz)
 (hx:ev s x= .osl k g sz st m) (hy:ev s y= .d (.v (.int kd n))) (hn:0≤n) (hlt:n.toNat < m):bI X ops s o {pv:= .rp k g sz (st+n.toNat) 0}:=
 aM hd fun s' he _ a w c hc=>by
  have e1:=bM hc x;rw[he x (by simp[ho,Op.operands]),hx]at e1;have e2:=cZ hc ((he y (by simp[ho,Op.operands])).trans hy);generalize hu:a.eval x=u at e1;obtain⟨i,d,z,tk⟩:=ig ht;obtain⟨ie,de,ze,tke⟩:=ig gL;have j4:d= .slice e:=by
   have:=tk.elem;rw[he']at this;cases d<;>simp[gm]at this;rw[this]
  subst j4;cases e1 with
  |osl _ _ _ _ _ b oo N cap ee RJ Pv L5=>
   have rE:0≤n∧n < (m:Int):=⟨hn,by omega⟩;refine⟨.pointer (some ⟨b,(st+n.toNat)*sz+0,none⟩),?_,.rp k g sz _ _ b _ cap ee⟩;rw[ZQ,←L5 (by omega)];simp[execOp,ho,hu,e2,Instr.indexAt,asIntOf,run_underlying tk.und,rE,sizeOf,typeInfo,tke.info,tke.size,cP,Addr.add_lit]
end
def kz:List (List Int × Int)→List Int→Option Int
 |[],_=>none
 |(k,v)::l,ks=>if k=ks then some v else kz l ks
def l7:List (List Int × Int)→List Int→Int→List (List Int × Int)
 |[],ks,v=>[(ks,v)]
 |(k,x)::l,ks,v=>if k=ks then (ks,v)::l else (k,x)::l7 l ks v
theorem gR:∀(l:List (List Int × Int)) (ks:List Int) (v:Int) (ks':List Int),kz (l7 l ks v) ks'=if ks=ks' then some v else kz l ks'
 |[],ks,v,ks'=>rfl
 |(k,x)::l,ks,v,ks'=>by
  unfold l7;by_cases h:k=ks
  ·subst h;rw[if_pos rfl];by_cases h':k=ks'
   ·simp[kz,h']
   ·simp[kz,h']
  ·rw[if_neg h];unfold kz;rw[gR l ks v ks'];by_cases h':k=ks'
   ·subst h';simp[Ne.symm h]
   ·simp[h']
theorem Fu {n:Nat}:∀{l:List (List Int × Int)}{ks:List Int}{v:Int},(∀kv∈l,kv.1.length=n)→ks.length=n→∀kv∈l7 l ks v,kv.1.length=n
 |[],ks,v,_,hk=>fun kv h=>by simp[l7]at h;rw[h];exact hk
 |(k,x)::l,ks,v,hl,hk=>fun kv h=>by
  unfold l7 at h;split at h
  ·rcases X7.1 h with rfl|h
   ·exact hk
   ·exact hl kv (by simp[h])
  ·rcases X7.1 h with rfl|h
   ·exact hl _ (by simp)
   ·exact Fu (fun kv h=>hl kv (by simp[h])) hk kv h
def pH:List (List Int × Int)→List Int→Nat→Option (Nat × Value)
 |[],_,_=>none
 |(k,v)::l,ks,i=>if k=ks then some (i,.int .i64 v)else pH l ks (i+1)
theorem Fv:∀(l:List (List Int × Int)) (ks:List Int) (i:Nat),(pH l ks i).map (·.2)=(kz l ks).map (.int .i64)
 |[],_,_=>rfl
 |(k,v)::l,ks,i=>by
  unfold pH kz;split
  ·rfl
  ·exact Fv l ks (i+1)
theorem x7 (s:Bool):∀(l:List (List Int × Int)) (ks:List Int) (v:Int) (i j:Nat) (u:Value),pH l ks i=some (j,u)→i≤j∧(∃e,(bu s l i)[j - i]? =some e∧e.key=i5 s ks)∧(bu s l i).modify (j - i) (fun e=>{e with key:=i5 s ks,val:= .int .i64 v})=bu s (l7 l ks v) i∧(l7 l ks v).length=l.length
 |[],_,_,_,_,_,h=>by cases h
 |(k,x)::l,ks,v,i,j,u,h=>by
  unfold pH at h;by_cases hk:k=ks
  ·rw[if_pos hk]at h;cases h;subst hk;refine⟨XB _,⟨_,by rw[YG];rfl,rfl⟩,?_,?_⟩
   ·rw[YG];simp[bu,l7]
   ·simp[l7]
  ·rw[if_neg hk]at h;obtain⟨h1,⟨e,h2,h3⟩,h4,h5⟩:=x7 s l ks v (i+1) j u h;have hj:j - i=(j - (i+1))+1:=by omega
   refine⟨by omega,⟨e,by rw[hj];simpa[bu]using h2,h3⟩,?_,?_⟩
   ·rw[hj];unfold l7;rw[if_neg hk];simp only[bu,List.modify_succ_cons];rw[h4]
   ·unfold l7;rw[if_neg hk];simp[h5]
theorem x8 (s:Bool):∀(l:List (List Int × Int)) (ks:List Int) (v:Int) (i:Nat),pH l ks i=none→bu s (l7 l ks v) i=bu s l i++[{key:=i5 s ks,val:= .int .i64 v,born:=i+l.length}]∧(l7 l ks v).length=l.length+1
 |[],_,_,_,_=>⟨rfl,rfl⟩
 |(k,x)::l,ks,v,i,h=>by
  unfold pH at h;by_cases hk:k=ks
  ·rw[if_pos hk]at h;cases h
  ·rw[if_neg hk]at h;obtain⟨h1,h2⟩:=x8 s l ks v (i+1) h;unfold l7;rw[if_neg hk];simp only[bu,h1,X8,XA,h2,and_true];rw[show i+1+l.length=i+(l.length+1) by omega]
structure KeyOK (P:Program)(k n:Nat)(s:Bool):Prop where
 chk:∀(em:Bool) (w:World) (xs:List Int),xs.length=n→(Instr.checkKey em 10000 k (i5 s xs)).run P w= .ok () w
 fnd:∀(w:World) (ents:List (List Int × Int)) (xs:List Int),(∀kv∈ents,kv.1.length=n)→xs.length=n→(Instr.findKey k (i5 s xs) (bu s ents 0)).run P w= .ok (pH ents xs 0) w
structure MapOK (P:Program)(t n:Nat)(s:Bool):Prop where
 ex:∃k e i,P.underlying t=some (.map k e)∧P.info? e=some i∧i.zero=some (.int .i64 0)∧KeyOK P k n s
theorem DZ {xs:List Int}(h:xs.length=1):∃a,xs=[a]:=by
 match xs,h with
 |[a],_=>exact⟨a,rfl⟩
theorem GT {P:Program}{k:Nat}(hk:P.underlying k=some (.int .i64)):KeyOK P k 1 false:=by
 refine⟨fun em w xs hx=>?_,fun w ents xs hn hx=>?_⟩
 ·obtain⟨a,rfl⟩:=DZ hx;exact MapKept.run_checkKey hk (by simp[i5,MapKept.IsKey]) em 9999
 ·obtain⟨a,rfl⟩:=DZ hx;refine MapKept.run_findKey hk ?_;have:∀(l:List (List Int × Int)) (i:Nat),(∀kv∈l,kv.1.length=1)→Instr.findNow (.int .i64) (.int .i64 a) (bu false l i) i=some (pH l [a] i):=by
   intro l;induction l with
   |nil=>intro i _;rfl
   |cons kv l ih=>
    intro i hl;obtain⟨k,v⟩:=kv;obtain⟨c,rfl⟩:=DZ (hl (k,v) (by simp));have ih:=ih (i+1) (fun kv h=>hl kv (by simp[h]));by_cases h:c=a
    ·subst h;simp[bu,pH,Instr.findNow,Instr.sameNow,i5]
    ·have h':(a==c)=false:=by simpa using fun e=>h e.symm
     simp[bu,pH,Instr.findNow,Instr.sameNow,i5,h,ih];rw[h']
  exact this ents 0 hn
theorem Jo {P:Program}{k n:Nat}(hw:(match P.underlying k with|some (.array _ _)|some (.struct _)=>true|_=>false)=true)(hc:∀(em:Bool) (w:World) (xs:List Int),xs.length=n→(Instr.checkKey em 10000 k (i5 true xs)).run P w= .ok () w)
 (he:∀(w:World) (xs ys:List Int),xs.length=n→ys.length=n→(Op.equal k (i5 true xs) (i5 true ys)).run P w= .ok (xs==ys) w):KeyOK P k n true:=by
 refine⟨hc,fun w ents xs hn hx=>?_⟩;rw[run_findKey_eq w hw];have:∀(l:List (List Int × Int)) (i:Nat),(∀kv∈l,kv.1.length=n)→(Instr.findAsking k (i5 true xs) (bu true l i) i).run P w= .ok (pH l xs i) w:=by
  intro l;induction l with
  |nil=>intro i _;rfl
  |cons kv l ih=>
   intro i hl;obtain⟨k',v⟩:=kv;have ih:=ih (i+1) (fun kv h=>hl kv (by simp[h]));have h0:=he w xs k' hx (hl (k',v) (by simp));simp only[bu,Instr.findAsking];rw[Sem.run_bind,h0];simp only[Result.andThen,pH];by_cases h:k'=xs
   ·subst h;simp
   ·have h':(xs==k')=false:=by simpa using fun e=>h e.symm
    rw[h',if_neg h];exact ih
 exact this ents 0 hn
theorem x9 {P:Program}{t k e:Nat}(ht:P.underlying t=some (.map k e))(hk:P.underlying k=some (.int .i64))(hz:(P.info? e).map (·.zero)=some (some (.int .i64 0))):MapOK P t 1 false:=by
 obtain⟨i,hi,hz⟩:=XO.1 hz;exact⟨k,e,i,ht,hi,hz,GT hk⟩
theorem D0 {P:Program}{t n b:Nat}{s:Bool}(hm:MapOK P t n s){w:World}{ents:List (List Int × Int)}(hb:w.heap[b]? =some (.map (bu s ents 0).toArray ents.length))(hn:∀kv∈ents,kv.1.length=n){xs:List Int}(hx:xs.length=n)(ok:Bool):
 (Instr.lookup t (.map (some b)) (i5 s xs) ok).run P w= .ok (if ok then .tuple #[.int .i64 ((kz ents xs).getD 0),.bool (kz ents xs).isSome]else .int .i64 ((kz ents xs).getD 0)) w:=by
 obtain⟨k,e,i,ht,hi,hz,hk⟩:=hm.ex;have hl:=Fv ents xs 0;unfold Instr.lookup;simp only[Sem.run_bind,run_underlying ht,Result.andThen,MapKept.run_getObj_map hb,Sem.run_pure,hk.chk _ _ _ hx,hk.fnd _ _ _ hn hx];cases hf:pH ents xs 0 with
 |none=>
  rw[hf]at hl;have hl':kz ents xs=none:=by
   cases h:kz ents xs with
   |none=>rfl
   |some v=>rw[h]at hl;cases hl
  rw[hl'];simp only[Sem.run_bind,zeroValue,typeInfo,run_program,hi,hz,Result.andThen,Sem.run_pure];cases ok<;>rfl
 |some iv=>
  rw[hf]at hl;cases h:kz ents xs with
  |none=>rw[h]at hl;cases hl
  |some v=>
   rw[h]at hl;simp only[Ye,XX.injEq]at hl;simp only[Sem.run_pure,Result.andThen,hl];cases ok<;>rfl
theorem zx (s:Bool)(xs:List Int):Instr.sameBits 10000 (i5 s xs) (i5 s xs)=true:=by
 cases s with
 |false=>simp[i5,Instr.sameBits]
 |true=>
  have:∀(l:List Int),((l.map (Value.int .i64)).zip (l.map (Value.int .i64))).all (fun(x,y)=>Instr.sameBits 9999 x y)=true:=by
   intro l;induction l with
   |nil=>rfl
   |cons a l ih=>simp only[Xm,List.zip_cons_cons,List.all_cons,ih,YA];simp[Instr.sameBits]
  simp only[i5,if_true,Instr.sameBits,beq_self_eq_true,Yr];exact this xs
theorem xe {P:Program}{t n b:Nat}{s:Bool}(hm:MapOK P t n s){w:World}{ents:List (List Int × Int)}(hb:w.heap[b]? =some (.map (bu s ents 0).toArray ents.length))(hn:∀kv∈ents,kv.1.length=n){xs:List Int}(hx:xs.length=n)(v:Int):
 (Instr.mapUpdate t (.map (some b)) (i5 s xs) (.int .i64 v)).run P w= .ok () {w with heap:=w.heap.setIfInBounds b (.map (bu s (l7 ents xs v) 0).toArray (l7 ents xs v).length)}:=by
 obtain⟨k,e,i,ht,hi,hz,hk⟩:=hm.ex;unfold Instr.mapUpdate;simp only[Sem.run_bind,run_underlying ht,Result.andThen,MapKept.run_getObj_map hb,hk.chk _ _ _ hx,hk.fnd _ _ _ hn hx];cases hf:pH ents xs 0 with
 |none=>
  obtain⟨h1,h2⟩:=x8 s ents xs v 0 hf;simp only[MapKept.run_setObj_map _ hb];rw[h1,h2];simp
 |some iv=>
  obtain⟨j,u⟩:=iv;obtain⟨-,⟨e0,h2,h3⟩,h4,h5⟩:=x7 s ents xs v 0 j u hf;rw[Yo]at h2 h4;have h6:(bu s ents 0).toArray[j]? =some e0:=by simpa using h2
  simp only[Sem.run_bind,h6,Ye,YI,h3,Instr.keyThatStays,zx,if_true,Sem.run_pure,Result.andThen,MapKept.run_setObj_map _ hb];rw[h5,←h4];simp
def D1 (s:Bool)(p:PV):Option (List Int):=
 match s,p with
 |false,.d (.v (.int .i64 a))=>some [a]
 |true,.d (.agg ds)=>pt ds
 |_,_=>none
theorem A9 {c:Cx}{w:World}{s:Bool}{p:PV}{xs:List Int}{v:Value}(h:D1 s p=some xs)(hr:RepP c w p v):v=i5 s xs:=by
 unfold D1 at h;split at h
 ·cases h;cases hr with|d _ _ hd=>cases hd;rfl
 ·cases hr with
  |d _ _ hd=>
   cases hd with
   |agg _ vs hl h1 bA=>
    rw[qv (xs:=xs) ⟨hl,bA⟩ h];simp[i5]
 ·cases h
theorem RealC.new_map {X:Cfg}{s:FS}{a:Act}{w:World}{c:Cx}(h:RealC X s a w c){k:Nat}(hk:s.heap k= .none)(tQ:¬k < X.m)(n:Nat)(sB:Bool):
 ∃c',RealC X {s with heap:=cE [(k,.mp n sB [])] s.heap} a (w.alloc (.map #[] 0)) c'∧RepP c' (w.alloc (.map #[] 0)) (.mref k) (.map (some w.heap.size)):=by
 have bc:=h.chunk k;rw[hk]at bc;cases bc with
 |none xG Sv=>
  have hx:=jg w (.map #[] 0);have cn:(fun k'=>if k'=k then some w.heap.size else c.bl k') k=some w.heap.size:=if_pos rfl;refine⟨{M:=fun b=>c.M b∨b=w.heap.size,bl:=fun k'=>if k'=k then some w.heap.size else c.bl k',ov:=c.ov},?_,.mref k _ cn⟩;have hle:c.le {M:=fun b=>c.M b∨b=w.heap.size,bl:=fun k'=>if k'=k then some w.heap.size else c.bl k',ov:=c.ov}:=
   ⟨fun k' b hb=>by
    have:k'≠k:=fun e=>by subst e;rw[xG]at hb;cases hb
    show (if k'=k then some w.heap.size else c.bl k')=some b;rw[if_neg this];exact hb,fun _ _ _ h=>h⟩
  refine h.new_chunk hk tQ hx hle (fun k' bB=>if_neg bB) (fun _ _=>rfl) (fun b=>?_) (fun b hb=>?_) (fun lK=>?_)
  ·simp only[Cx.block,if_true,XX.injEq];exact⟨fun h=>h.imp id Eq.symm,fun h=>h.imp id Eq.symm⟩
  ·simp only[Cx.block,if_true,XX.injEq]at hb;rw[size_alloc];omega
  ·exact .mp n sB [] w.heap.size cn (by simpa[bu]using jD w (.map #[] 0)) (fun _ h=>by simp at h)
theorem RealC.set_map {X:Cfg}{s:FS}{a:Act}{w:World}{c:Cx}(h:RealC X s a w c){k n b:Nat}{sB:Bool}{ents ents':List (List Int × Int)}(hk:s.heap k= .mp n sB ents)(hb:c.bl k=some b)(hh:w.heap[b]? =some (.map (bu sB ents 0).toArray ents.length))
 (hn:∀kv∈ents',kv.1.length=n):RealC X {s with heap:=cE [(k,.mp n sB ents')] s.heap} a {w with heap:=w.heap.setIfInBounds b (.map (bu sB ents' 0).toArray ents'.length)} c:=by
 have cG:c.block k (s.heap k)=some b:=by rw[hk];exact hb
 have dP:=MapKept.heap_set (o':= .map (bu sB ents' 0).toArray ents'.length) hh;refine h.turn c.le_refl rfl (fun _ _=>rfl) (fun _ _=>rfl) rfl rfl rfl (by simp) (fun b' _ hb'=>dP.2 b' (fun e=>hb' (by rw[e];exact cG))) (fun b'=>?_) (fun b' hb'=>?_) (fun lK=>?_)
 ·show c.M b'↔(c.M b'∧c.block k (s.heap k)≠some b')∨c.bl k=some b';rw[cG,hb];constructor
  ·intro hm;by_cases e:b=b'
   ·exact .inr (by rw[e])
   ·exact .inl ⟨hm,fun h=>e (XX.inj h)⟩
  ·rintro (⟨hm,_⟩|e)
   ·exact hm
   ·exact(h.mu b').2 (.inr ⟨k,by rw[cG];exact e⟩)
 ·have e:c.bl k=some b':=hb';refine⟨.inl (by rw[cG,←hb];exact e),?_⟩;simp only[Array.size_setIfInBounds];exact(h.new k b' (by rw[cG,←hb];exact e)).2
 ·exact .mp n sB ents' b hb dP.1 hn
section
variable {X:Cfg}{ops:Array Oper}{s:FS}{o:Oper}(hd:∀d,o.dst=some d→d < X.n)
include hd
theorem D2 {t nk n:Nat}{sB:Bool}(ho:o.op= .makeMap t none)(hk:s.heap nk= .none)(tQ:¬nk < X.m):bI X ops s o {pv:= .mref nk,eff:=[(nk,.mp n sB [])],touch:=[nk]}:=
 d4 hd (fun kc h=>by simp at h;subst h;simp) fun s' he hU a w c hc=>by
  obtain⟨c',h1,h2⟩:=hc.new_map (k:=nk) (by rw[hU nk (by simp)];exact hk) tQ n sB;refine⟨_,_,_,?_,.inl rfl,c',h1,h2⟩;simp only[execOp,ho,Zg];rw[Sem.run_bind,run_makeMap];rfl
theorem GU {t k n:Nat}{sB ok:Bool}{m x:Operand}{ents:List (List Int × Int)}{xs:List Int}(ho:o.op= .lookup t m x ok)(hm:MapOK X.P t n sB)(SC:ev s m= .mref k)(hk:s.heap k= .mp n sB ents)(hx:D1 sB (ev s x)=some xs)(TF:xs.length=n):
 bI X ops s o {pv:=if ok then .d (.tup [.v (.int .i64 ((kz ents xs).getD 0)),.v (.bool (kz ents xs).isSome)])else .d (.v (.int .i64 ((kz ents xs).getD 0))),touch:=[k]}:=
 aM hd fun s' he hU a w c hc=>by
  have e1:=bM hc m;rw[he m (by simp[ho,Op.operands]),SC]at e1;have e2:=bM hc x;rw[he x (by simp[ho,Op.operands])]at e2;have e3:=A9 hx e2;have hk':s'.heap k= .mp n sB ents:=by rw[hU k (by simp)];exact hk
  have bc:=hc.chunk k;rw[hk']at bc;generalize hu:a.eval m=u at e1;cases e1 with
  |mref _ b hb=>
   cases bc with
   |mp _ _ _ b' hb' hh hn=>
    rw[hb]at hb';cases hb';have cr:=D0 hm hh hn TF ok;refine⟨if ok then .tuple #[.int .i64 ((kz ents xs).getD 0),.bool (kz ents xs).isSome]else .int .i64 ((kz ents xs).getD 0),?_,?_⟩
    ·simp only[execOp,ho,hu,e3];rw[Sem.run_bind,cr];rfl
    ·cases ok with
     |false=>exact .d _ _ (.v _)
     |true=>
      refine .d _ _ (.tup _ [_,_] rfl ?_);intro j d y h1 h2;match j with
      |0=>simp at h1 h2;subst h1;subst h2;exact .v _
      |1=>simp at h1 h2;subst h1;subst h2;exact .v _
      |j+2=>simp at h1
theorem zy {t k n:Nat}{sB:Bool}{m x y:Operand}{ents:List (List Int × Int)}{xs:List Int}{v:Int}(ho:o.op= .mapUpdate t m x y∨o.op= .insert t m x y)(sP:o.dst=none)(hm:MapOK X.P t n sB)(SC:ev s m= .mref k)(hk:s.heap k= .mp n sB ents)(hx:D1 sB (ev s x)=some xs)(TF:xs.length=n)
 (hy:ev s y= .d (.v (.int .i64 v))):bI X ops s o {pv:= .any,eff:=[(k,.mp n sB (l7 ents xs v))],touch:=[k]}:=
 d4 hd (fun kc h=>by simp at h;subst h;simp) fun s' he hU a w c hc=>by
  have dB:m∈o.op.operands∧x∈o.op.operands∧y∈o.op.operands:=by rcases ho with ho|ho<;>simp[ho,Op.operands]
  have e1:=bM hc m;rw[he m dB.1,SC]at e1;have e2:=bM hc x;rw[he x dB.2.1]at e2;have e3:=A9 hx e2;have e4:=bM hc y;rw[he y dB.2.2,hy]at e4;have hk':s'.heap k= .mp n sB ents:=by rw[hU k (by simp)];exact hk
  have bc:=hc.chunk k;rw[hk']at bc;generalize hu:a.eval m=u at e1;generalize hv:a.eval y=vy at e4;cases e4 with
  |d _ _ e4=>
  cases e4;cases e1 with
  |mref _ b hb=>
   cases bc with
   |mp _ _ _ b' hb' hh hn=>
    rw[hb]at hb';cases hb';have cr:=xe hm hh hn TF v;have h3:=hc.set_map hk' hb hh (Fu (v:=v) hn TF);refine⟨.skip,undef,_,?_,.inr ⟨rfl,rfl⟩,c,h3,.any _⟩;rcases ho with ho|ho
    ·simp only[execOp,ho,hu,hv,e3];rw[Sem.run_bind,cr];rfl
    ·simp only[execOp,ho,hu,hv,e3];rw[Sem.run_bind,cr];rfl
end
def xg (P:Program)(f:Nat):Prop:=∀(args:Array Value) (w:World),(callFunc f args).run P w= .ok (.enter f args) w
def af (P:Program)(f:Nat)(args:List D)(r:D):Prop:=
 xg P f∧∀(M:Nat→Prop) (w:World) (vs:List Value),(∀b,M b→b < w.heap.size)→DO M w→dZ M w args vs→Calls P f vs.toArray w fun e w'=>∃v,e= .returned v∧RepD M w' r v∧dw w w'
def D.isV:D→Bool
 | .v _=>true
 |_=>false
def D.flat:D→Bool
 | .v _=>true
 | .agg l=>l.all D.isV
 | .tup l=>l.all fun d=>match d with| .v _=>true| .agg l=>l.all D.isV|_=>false
 |_=>false
theorem Fw {M M':Nat→Prop}{w w':World}{d:D}{v:Value}(h:RepD M w d v)(hf:d.isV=true):RepD M' w' d v:=by
 cases d<;>simp[D.isV]at hf;cases h;exact .v _
theorem Jp {M M':Nat→Prop}{w w':World}{d:D}{v:Value}(h:RepD M w d v)(hf:d.flat=true):RepD M' w' d v:=by
 cases h with
 |v=>exact .v _
 |agg cells vs hl h1 bA=>
  simp only[D.flat,XE]at hf;exact .agg cells vs hl h1 fun j d x hj hx=>Fw (bA j d x hj hx) (hf d (Xl hj))
 |tup ds vs hl bA=>
  simp only[D.flat,XE]at hf;refine .tup ds vs hl fun j d x hj hx=>?_;have h0:=bA j d x hj hx;have h1:=hf d (Xl hj);cases h0 with
  |v=>exact .v _
  |agg cells us hl' h1' oI=>
   simp only[XE]at h1;exact .agg cells us hl' h1' fun j d x hj hx=>Fw (oI j d x hj hx) (h1 d (Xl hj))
  |_=>simp at h1
 |_=>simp[D.flat]at hf
def cJ (f:PV→Option D):List PV→Option (List D)
 |[]=>some []
 |p::l=>match f p,cJ f l with|some d,some ds=>some (d::ds)|_,_=>none
def da (f:PV→Option D):List (List PV)→Option (List (List D))
 |[]=>some []
 |r::l=>match cJ f r,da f l with|some d,some ds=>some (d::ds)|_,_=>none
def bp (h:Nat→Chunk):Nat→PV→Option D
 |_,.d x=>some x
 |n+1,.own k g=>match h k with| .row _ sz g' rows=>if g=g' then (da (bp h n) rows).map (.sl sz)else none|_=>none
 |n+1,.ptr k off=>match h k with| .box _ cells=>(cJ (bp h n) (cells.drop off)).map .ept|_=>none
 |n+1,.rp k g sz i j=>match h k with| .row _ sz' g' rows=>if g=g'∧sz=sz' then (match rows[i]? with|some row=>(cJ (bp h n) (row.drop j)).map .ept|none=>none)else none|_=>none
 |n+1,.osl k g sz a m=>match h k with| .row _ sz' g' rows=>if g=g'∧sz=sz'∧0 < rows.length then (da (bp h n) ((rows.drop a).take m)).map (.sl sz)else none|_=>none
 |n+1,.clo g caps=>(cJ (bp h n) caps).map (.clo g)
 |n+1,.agg cells=>(cJ (bp h n) cells).map .agg
 |n+1,.tup l=>(cJ (bp h n) l).map .tup
 |_,_=>none
def jh (f:PV→List Nat):List PV→List Nat
 |[]=>[]
 |p::l=>f p++jh f l
def xj (f:PV→List Nat):List (List PV)→List Nat
 |[]=>[]
 |r::l=>jh f r++xj f l
def cT (h:Nat→Chunk):Nat→PV→List Nat
 |_,.d _=>[]
 |n+1,.own k _=>k::(match h k with| .row _ _ _ rows=>xj (cT h n) rows|_=>[])
 |n+1,.ptr k off=>k::(match h k with| .box _ cells=>jh (cT h n) (cells.drop off)|_=>[])
 |n+1,.rp k _ _ i j=>k::(match h k with| .row _ _ _ rows=>jh (cT h n) (((rows[i]?).getD []).drop j)|_=>[])
 |n+1,.osl k _ _ _ _=>k::(match h k with| .row _ _ _ rows=>xj (cT h n) rows|_=>[])
 |n+1,.clo _ caps=>jh (cT h n) caps
 |n+1,.agg cells=>jh (cT h n) cells
 |n+1,.tup l=>jh (cT h n) l
 |_,_=>[]
theorem mM (h:Nat→Chunk)(n:Nat)(x:D):bp h n (.d x)=some x:=by cases n<;>rfl
theorem Jq (h:Nat→Chunk)(n:Nat)(x:D):cT h n (.d x)=[]:=by cases n<;>rfl
theorem ui (h:Nat→Chunk)(n:Nat):∀(l:List D),cJ (bp h n) (l.map .d)=some l
 |[]=>rfl
 |x::l=>by simp only[Xm,cJ,mM,ui h n l]
theorem zA (h:Nat→Chunk)(n:Nat):∀(l:List D),jh (cT h n) (l.map .d)=[]
 |[]=>rfl
 |x::l=>by simp only[Xm,jh,Jq,zA h n l,Yv]
theorem eG (h:Nat→Chunk)(n:Nat):∀(l:List (List D)),da (bp h n) (ab l)=some l
 |[]=>rfl
 |x::l=>by
  have:=eG h n l;simp only[ab]at this;simp only[ab,Xm,da,ui,this]
theorem nU (h:Nat→Chunk)(n:Nat):∀(l:List (List D)),xj (cT h n) (ab l)=[]
 |[]=>rfl
 |x::l=>by
  have:=nU h n l;simp only[ab]at this;simp only[ab,Xm,xj,zA,this,Yv]
theorem fJ {f:PV→List Nat}:∀{l:List PV}{p:PV},p∈l→∀k∈f p,k∈jh f l
 |q::l,p,h,k,hk=>by
  rcases X7.1 h with rfl|h
  ·exact ZP _ hk
  ·exact List.mem_append_right _ (fJ h k hk)
theorem nV {f:PV→List Nat}:∀{l:List (List PV)}{r:List PV}{p:PV},r∈l→p∈r→∀k∈f p,k∈xj f l
 |q::l,r,p,h,hp,k,hk=>by
  rcases X7.1 h with rfl|h
  ·exact ZP _ (fJ hp k hk)
  ·exact List.mem_append_right _ (nV h hp k hk)
theorem gn {f f':PV→Option D}:∀{l:List PV},(∀p∈l,f' p=f p)→cJ f' l=cJ f l
 |[],_=>rfl
 |p::l,e=>by simp only[cJ,e p (by simp),gn (l:=l) fun q hq=>e q (by simp[hq])]
theorem pI {f f':PV→Option D}:∀{l:List (List PV)},(∀r∈l,∀p∈r,f' p=f p)→da f' l=da f l
 |[],_=>rfl
 |r::l,e=>by simp only[da,gn (e r (by simp)),pI (l:=l) fun q hq=>e q (by simp[hq])]
theorem ji {f f':PV→List Nat}:∀{l:List PV},(∀p∈l,f' p=f p)→jh f' l=jh f l
 |[],_=>rfl
 |p::l,e=>by simp only[jh,e p (by simp),ji (l:=l) fun q hq=>e q (by simp[hq])]
theorem rW {f f':PV→List Nat}:∀{l:List (List PV)},(∀r∈l,∀p∈r,f' p=f p)→xj f' l=xj f l
 |[],_=>rfl
 |r::l,e=>by simp only[xj,ji (e r (by simp)),rW (l:=l) fun q hq=>e q (by simp[hq])]
theorem fw {h h':Nat→Chunk}:∀(n:Nat) (p:PV),(∀k∈cT h n p,h' k=h k)→bp h' n p=bp h n p∧cT h' n p=cT h n p
 |0,p,_=>by cases p<;>exact⟨rfl,rfl⟩
 |n+1,p,e=>by
  cases p with
  |own k g=>
   have hk:=e k (by simp[cT]);simp only[bp,cT,hk];cases hb:h k with
   |row E sz g' rows=>
    have key:∀r∈rows,∀q∈r,bp h' n q=bp h n q∧cT h' n q=cT h n q:=fun r hr q hq=>fw n q fun k' hk'=>e k' (by
     simp only[cT,hb,X7];exact .inr (nV hr hq k' hk'))
    simp only;rw[pI fun r hr q hq=>(key r hr q hq).1,rW fun r hr q hq=>(key r hr q hq).2];exact⟨rfl,rfl⟩
   |_=>exact⟨rfl,rfl⟩
  |ptr k off=>
   have hk:=e k (by simp[cT]);simp only[bp,cT,hk];cases hb:h k with
   |box T cells=>
    have key:∀q∈cells.drop off,bp h' n q=bp h n q∧cT h' n q=cT h n q:=fun q hq=>fw n q fun k' hk'=>e k' (by
     simp only[cT,hb,X7];exact .inr (fJ hq k' hk'))
    simp only;rw[gn fun q hq=>(key q hq).1,ji fun q hq=>(key q hq).2];exact⟨rfl,rfl⟩
   |_=>exact⟨rfl,rfl⟩
  |rp k g sz i j=>
   have hk:=e k (by simp[cT]);simp only[bp,cT,hk];cases hb:h k with
   |row E sz' g' rows=>
    have key:∀q∈((rows[i]?).getD []).drop j,bp h' n q=bp h n q∧cT h' n q=cT h n q:=fun q hq=>fw n q fun k' hk'=>e k' (by
     simp only[cT,hb,X7];exact .inr (fJ hq k' hk'))
    simp only;refine⟨?_,by rw[ji fun q hq=>(key q hq).2]⟩;cases Gv:rows[i]? with
    |none=>rfl
    |some row=>
     rw[Gv]at key;simp only[YI]at key;simp only;rw[gn fun q hq=>(key q hq).1]
   |_=>exact⟨rfl,rfl⟩
  |osl k g sz a m=>
   have hk:=e k (by simp[cT]);simp only[bp,cT,hk];cases hb:h k with
   |row E sz g' rows=>
    have key:∀r∈rows,∀q∈r,bp h' n q=bp h n q∧cT h' n q=cT h n q:=fun r hr q hq=>fw n q fun k' hk'=>e k' (by
     simp only[cT,hb,X7];exact .inr (nV hr hq k' hk'))
    simp only;rw[pI (l:=(rows.drop a).take m) fun r hr q hq=>(key r (Yd (Yg hr)) q hq).1,rW fun r hr q hq=>(key r hr q hq).2];exact⟨rfl,rfl⟩
   |_=>exact⟨rfl,rfl⟩
  |clo g caps=>
   have key:∀q∈caps,bp h' n q=bp h n q∧cT h' n q=cT h n q:=fun q hq=>fw n q fun k' hk'=>e k' (fJ hq k' hk');simp only[bp,cT];rw[gn fun q hq=>(key q hq).1,ji fun q hq=>(key q hq).2];exact⟨rfl,rfl⟩
  |agg caps=>
   have key:∀q∈caps,bp h' n q=bp h n q∧cT h' n q=cT h n q:=fun q hq=>fw n q fun k' hk'=>e k' (fJ hq k' hk');simp only[bp,cT];rw[gn fun q hq=>(key q hq).1,ji fun q hq=>(key q hq).2];exact⟨rfl,rfl⟩
  |tup caps=>
   have key:∀q∈caps,bp h' n q=bp h n q∧cT h' n q=cT h n q:=fun q hq=>fw n q fun k' hk'=>e k' (fJ hq k' hk');simp only[bp,cT];rw[gn fun q hq=>(key q hq).1,ji fun q hq=>(key q hq).2];exact⟨rfl,rfl⟩
  |_=>exact⟨rfl,rfl⟩
def lw (c:Cx)(h:Nat→Chunk)(T:List Nat)(b:Nat):Prop:=c.M b∧∀k∈T,c.block k (h k)≠some b
theorem rX (c:Cx)(h:Nat→Chunk)(T:List Nat)(w:World):Keep c.M w (lw c h T) w:=⟨XB _,fun _ _ _=>rfl,fun _ _ h=>h.1⟩
theorem eV {f:PV→Option D}:∀{l:List PV}{ds:List D},cJ f l=some ds→l.length=ds.length∧∀(j:Nat) (d:D),ds[j]? =some d→∃p,l[j]? =some p∧f p=some d
 |[],ds,h=>by simp[cJ]at h;subst h;simp
 |p::l,ds,h=>by
  simp only[cJ]at h;split at h
  ·rename_i d es h1 h2;cases h;obtain⟨q1,q2⟩:=eV h2;refine⟨by simp[q1],fun j e hj=>?_⟩;cases j with
   |zero=>simp at hj;subst hj;exact⟨p,rfl,h1⟩
   |succ j=>simpa using q2 j e (by simpa using hj)
  ·cases h
theorem uJ {f:PV→Option D}:∀{l:List (List PV)}{ds:List (List D)},da f l=some ds→l.length=ds.length∧∀(j:Nat) (d:List D),ds[j]? =some d→∃p,l[j]? =some p∧cJ f p=some d
 |[],ds,h=>by simp[da]at h;subst h;simp
 |p::l,ds,h=>by
  simp only[da]at h;split at h
  ·rename_i d es h1 h2;cases h;obtain⟨q1,q2⟩:=uJ h2;refine⟨by simp[q1],fun j e hj=>?_⟩;cases j with
   |zero=>simp at hj;subst hj;exact⟨p,rfl,h1⟩
   |succ j=>simpa using q2 j e (by simpa using hj)
  ·cases h
theorem l8 {h:Nat→Chunk}{n:Nat}{p:PV}{d:D}(hv:bp h n p=some d)(h1:p.one=true):d.one=true:=by
 cases p with
 |d x=>rw[mM]at hv;cases hv;exact h1
 |agg=>simp[PV.one]at h1
 |tup=>simp[PV.one]at h1
 |any=>simp[PV.one]at h1
 |own k g=>
  cases n with
  |zero=>cases hv
  |succ n=>
   simp only[bp]at hv;split at hv
   ·split at hv
    ·simp only[XO]at hv;obtain⟨_,_,rfl⟩:=hv;rfl
    ·cases hv
   ·cases hv
 |ptr k off=>
  cases n with
  |zero=>cases hv
  |succ n=>
   simp only[bp]at hv;split at hv
   ·simp only[XO]at hv;obtain⟨_,_,rfl⟩:=hv;rfl
   ·cases hv
 |rp k g sz i j=>
  cases n with
  |zero=>cases hv
  |succ n=>
   simp only[bp]at hv;split at hv
   ·split at hv
    ·split at hv
     ·simp only[XO]at hv;obtain⟨_,_,rfl⟩:=hv;rfl
     ·cases hv
    ·cases hv
   ·cases hv
 |clo g caps=>
  cases n with
  |zero=>cases hv
  |succ n=>simp only[bp,XO]at hv;obtain⟨_,_,rfl⟩:=hv;rfl
 |osl k g sz a m=>
  cases n with
  |zero=>cases hv
  |succ n=>
   simp only[bp]at hv;split at hv
   ·split at hv
    ·simp only[XO]at hv;obtain⟨_,_,rfl⟩:=hv;rfl
    ·cases hv
   ·cases hv
 |mref=>cases n<;>cases hv
theorem l9 {w:World}{b:Nat}{o:Obj}(h:w.heap[b]? =some o):b < w.heap.size:=by
 rcases XP b w.heap.size with hl|hl
 ·exact hl
 ·rw[YM hl]at h;cases h
section
variable {X:Cfg}{s:FS}{a:Act}{w:World}{c:Cx}(hc:RealC X s a w c){T:List Nat}
include hc
theorem kG:∀(n:Nat) {p:PV}{d:D}{v:Value},bp s.heap n p=some d→(∀k∈cT s.heap n p,k∈T)→RepP c w p v→RepD (lw c s.heap T) w d v
 |0,p,d,v,hv,ht,hr=>by
  cases p with
  |d x=>cases hv;exact(co hr).keep (rX c s.heap T w)
  |_=>cases hv
 |n+1,p,d,v,hv,ht,hr=>by
  have many:∀(l:List PV) (ds:List D) (vs:List Value),cJ (bp s.heap n) l=some ds→(∀k∈jh (cT s.heap n) l,k∈T)→bG c w l vs→dZ (lw c s.heap T) w ds vs:=by
   intro l ds vs ft hT hl;obtain⟨q1,q2⟩:=eV ft;refine⟨by rw[←q1];exact hl.1,fun j d x hj hx=>?_⟩;obtain⟨p,hp,wK⟩:=q2 j d hj;exact kG n wK (fun k hk=>hT k (fJ (Xl hp) k hk)) (hl.2 j p x hp hx)
  cases p with
  |d x=>rw[mM]at hv;cases hv;exact(co hr).keep (rX c s.heap T w)
  |own k g=>
   simp only[bp]at hv;split at hv
   ·rename_i E sz g' rows hk;split at hv
    ·rename_i e;subst e;simp only[XO]at hv;obtain⟨drows,ft,rfl⟩:=hv;obtain⟨q1,q2⟩:=uJ ft;have bc:=hc.chunk k;rw[hk]at bc;have Ul:k∈T:=ht k (by simp[cT]);have wI:∀r∈rows,∀p∈r,∀k'∈cT s.heap n p,k'∈T:=fun r hr p hp k' hk'=>ht k' (by
      simp only[cT,hk,X7];exact .inr (nV hr hp k' hk'))
     cases hr with
     |own _ _ _ ee _=>
      cases bc with
      |row _ _ _ _ u xs hu cX ny cP h1 hg=>
       rw[ee]at hu;cases hu;generalize hn:rows.length=n' at cX;have nilc:n'=0→drows=[]:=fun h0=>X9 (by omega);cases cX with
       |nil=>rw[nilc rfl];exact .nil sz none 0 (by omega)
       |zero ad=>rw[nilc rfl];exact .nil sz (some ad) 0 (by omega)
       |row gb _ cap cur _ h0 hh I1 hm hs hl gU=>
        subst hn;have L3:∀j,j < rows.length*sz→cur[j]? =xs[j]? :=by
         intro j hj;rw[←gU,XS hj,X6]
        rw[q1];refine .sl sz drows gb 0 cap (fun i j=>xs.getD (i*sz+j) undef) (fun hm'=>hm'.2 k Ul (by rw[hk];simp[Cx.block,ee,dh h0])) (l9 hh) (by omega) (by simpa[maxLen]using hm) (fun r hr=>?_) (fun r hr d hd=>?_) (fun i j hi hj=>?_) (fun i j row d hi hj=>?_)
        ·obtain⟨j,hj,e⟩:=Yb hr;obtain⟨p,hp,wK⟩:=q2 j r (by rw[←e];exact Xk hj);rw[←(eV wK).1];exact cP p (Xl hp)
        ·obtain⟨j,hj,e⟩:=Yb hr;obtain⟨p,hp,wK⟩:=q2 j r (by rw[←e];exact Xk hj);obtain⟨j2,I4,e2⟩:=Yb hd;obtain⟨p2,Gw,Fb⟩:=(eV wK).2 j2 d (by rw[←e2];exact Xk I4);exact l8 Fb (h1 p (Xl hp) p2 (Xl Gw))
        ·have hij:i*sz+j < rows.length*sz:=by
          have:(i+1)*sz≤rows.length*sz:=Ys sz (by omega);rw[YY]at this;omega
         rw[XG];simp only[YS,hh,L3 _ hij];simp[XJ,Xk (show i*sz+j < xs.length by omega)]
        ·obtain⟨p,hp,wK⟩:=q2 i row hi;obtain⟨p2,Gw,Fb⟩:=(eV wK).2 j d hj;have hi':i < rows.length:=(Xn.1 hp).1;have hj':j < sz:=by rw[←cP p (Xl hp)];exact(Xn.1 Gw).1
         have hij:i*sz+j < rows.length*sz:=by
          have:(i+1)*sz≤rows.length*sz:=Ys sz hi';rw[YY]at this;omega
         have hx:xs[i*sz+j]? =some xs[i*sz+j]:=Xk (by omega);have:=ny.2 (i*sz+j) p2 _ (by rw[cB cP i j hj',hp];exact Gw) hx;have:=kG n Fb (wI p (Xl hp) p2 (Xl Gw)) this;simpa[XJ,hx]using this
    ·cases hv
   ·cases hv
  |ptr k off=>
   simp only[bp]at hv;split at hv
   ·rename_i TT cells hk;simp only[XO]at hv;obtain⟨ds,ft,rfl⟩:=hv;have bc:=hc.chunk k;rw[hk]at bc;cases hr with
    |ptr _ _ b hb=>
     cases bc with
     |box _ _ b' vs hb' hh ny h1=>
      rw[hb]at hb';cases hb';have DJ:bG c w (cells.drop off) (vs.drop off):=⟨by rw[XI,XI,ny.1],fun j d x hj hx=>by
       rw[Yk]at hj hx;exact ny.2 _ d x hj hx⟩
      have hm:=many _ ds _ ft (fun k' hk'=>ht k' (by simp only[cT,hk,X7];exact .inr hk')) DJ;obtain⟨q1,q2⟩:=eV ft;refine .ept ds b off (fun j=>(vs.drop off).getD j undef) (fun hm'=>hm'.2 k (ht k (by simp[cT])) (by rw[hk];exact hb)) (l9 hh) (fun d hd=>?_) (fun j hj=>?_) (fun j d hj=>?_)
      ·obtain⟨j,hj,e⟩:=Yb hd;obtain⟨p,hp,wK⟩:=q2 j d (by rw[←e];exact Xk hj);exact l8 wK (h1 p (Yd (Xl hp)))
      ·have hl:off+j < vs.length:=by have:=DJ.1;rw[XI,XI]at this;rw[←q1,XI]at hj;have:=ny.1;omega
       simp[YS,hh,XJ,Yk,Xk hl]
      ·have hl:j < (vs.drop off).length:=by rw[←hm.1];exact(Xn.1 hj).1
       have:=hm.2 j d _ hj (Xk hl);simpa[XJ,Xk hl]using this
   ·cases hv
  |rp k g sz i j=>
   simp only[bp]at hv;split at hv
   ·rename_i E sz' g' rows hk;split at hv
    ·rename_i e;obtain⟨rfl,rfl⟩:=e;split at hv
     ·rename_i row bY;simp only[XO]at hv;obtain⟨ds,ft,rfl⟩:=hv;have bc:=hc.chunk k;rw[hk]at bc;cases hr with
      |rp _ _ _ _ _ b nn cap hb=>
       obtain⟨cur,xs,z1,z2,z3,z4,z5,z6,z7,z8,z9,z10,z11⟩:=ed bc hb (fun e=>by rw[e]at bY;cases bY);have hi:i < rows.length:=(Xn.1 bY).1;have za:row.length=sz:=z5 row (Xl bY);have Au:(i+1)*sz≤rows.length*sz:=Ys sz hi;rw[YY]at Au;have nx:=A3 z2 z5 bY z3;generalize IH:(xs.drop (i*sz)).take sz=ys at nx;have rF:ys.length=sz:=by rw[←nx.1,za]
       have dy:∀j' v,ys[j']? =some v→cur[i*sz+j']? =some v:=by
        intro j' v hj';rw[←IH]at hj';obtain⟨hlt,hj'⟩:=eF hj';rw[z4 _ (by omega),hj']
       have DJ:bG c w (row.drop j) (ys.drop j):=⟨by rw[XI,XI,nx.1],fun j d x hj hx=>by
        rw[Yk]at hj hx;exact nx.2 _ d x hj hx⟩
       have hm:=many _ ds _ ft (fun k' hk'=>ht k' (by simp only[cT,hk,bY,YI,X7];exact .inr hk')) DJ;obtain⟨q1,q2⟩:=eV ft;have ee:c.block k (s.heap k)=fm (.slice (some ⟨b,0,none⟩) nn cap):=by rw[hk];simp[Cx.block,hb]
       refine .ept ds b (i*sz+j) (fun j'=>(ys.drop j).getD j' undef) (fun hm'=>hm'.2 k (ht k (by simp[cT])) (by rw[ee,dh (by omega)])) (l9 z1) (fun d hd=>?_) (fun j' hj'=>?_) (fun j' d hj'=>?_)
       ·obtain⟨j',hj',e⟩:=Yb hd;obtain⟨p,hp,wK⟩:=q2 j' d (by rw[←e];exact Xk hj');exact l8 wK (z6 row (Xl bY) p (Yd (Xl hp)))
       ·have hl:j+j' < ys.length:=by rw[←q1,XI]at hj';omega
        have:=dy (j+j') _ (Xk hl);simp only[YS,z1];rw[ZF,this];simp[XJ,Yk,Xk hl]
       ·have hl:j' < (ys.drop j).length:=by rw[←hm.1];exact(Xn.1 hj').1
        have:=hm.2 j' d _ hj' (Xk hl);simpa[XJ,Xk hl]using this
     ·cases hv
    ·cases hv
   ·cases hv
  |clo g caps=>
   simp only[bp,XO]at hv;obtain⟨ds,ft,rfl⟩:=hv;cases hr with
   |clo _ _ vs hl bA=>
    have hm:=many _ ds _ ft (fun k' hk'=>ht k' hk') ⟨hl,bA⟩;exact .clo g ds vs hm.1 hm.2
  |agg cells=>
   simp only[bp,XO]at hv;obtain⟨ds,ft,rfl⟩:=hv;cases hr with
   |agg _ vs hl h1 bA=>
    have hm:=many _ ds _ ft (fun k' hk'=>ht k' hk') ⟨hl,bA⟩;refine .agg ds vs hm.1 (fun d hd=>?_) hm.2;obtain⟨j,hj,e⟩:=Yb hd;obtain⟨p,hp,wK⟩:=(eV ft).2 j d (by rw[←e];exact Xk hj);exact l8 wK (h1 p (Xl hp))
  |tup cells=>
   simp only[bp,XO]at hv;obtain⟨ds,ft,rfl⟩:=hv;cases hr with
   |tup _ vs hl bA=>
    have hm:=many _ ds _ ft (fun k' hk'=>ht k' hk') ⟨hl,bA⟩;exact .tup ds vs hm.1 hm.2
  |any=>cases hv
  |osl k g sz a m=>
   simp only[bp]at hv;split at hv
   ·rename_i E sz' g' rows hk;split at hv
    ·rename_i e;obtain⟨rfl,rfl,II⟩:=e;simp only[XO]at hv;obtain⟨drows,ft,rfl⟩:=hv;obtain⟨q1,q2⟩:=uJ ft;have bc:=hc.chunk k;rw[hk]at bc;have Ul:k∈T:=ht k (by simp[cT]);have wI:∀r∈rows,∀p∈r,∀k'∈cT s.heap n p,k'∈T:=fun r hr p hp k' hk'=>ht k' (by
      simp only[cT,hk,X7];exact .inr (nV hr hp k' hk'))
     cases hr with
     |osl _ _ _ _ _ b o N cap ee hn Pv L5=>
      obtain⟨cur,xs,z1,z2,z3,z4,z5,z6,z7,z8,z9,z10,z11⟩:=ed bc ee (fun e=>by rw[e]at II;simp at II);have bT:((rows.drop a).take m).length=m:=by rw[Xp,XI];omega
      rw[bT]at q1;rcases ZJ m with hm0|hm0
      ·subst hm0;have:drows=[]:=X9 (by omega);subst this;exact .nil sz _ _ (by simp[maxLen]at z9;omega)
      ·have ho:o=a*sz:=L5 (by omega);subst ho;have bY:∀(j:Nat) (p:List PV),((rows.drop a).take m)[j]? =some p→rows[a+j]? =some p∧j < m:=by
        intro j p hp;have hj:j < m:=by have:=(Xn.1 hp).1;rw[bT]at this;exact this
        rw[XS hj,Yk]at hp;exact⟨hp,hj⟩
       have ld:∀i j,a*sz+i*sz+j=(a+i)*sz+j:=fun i j=>by rw[ZQ]
       have rI:∀i j,i < m→j < sz→(a+i)*sz+j < rows.length*sz:=by
        intro i j hi hj;have:(a+i+1)*sz≤rows.length*sz:=Ys sz (by omega);rw[YY]at this;omega
       have hD:RepD (lw c s.heap T) w (.sl sz drows) (.slice (some ⟨b,a*sz,none⟩) drows.length (cap - a)):=by
        refine .sl sz drows b (a*sz) (cap - a) (fun i j=>xs.getD ((a+i)*sz+j) undef) (fun hm'=>hm'.2 k Ul (by rw[hk];simp[Cx.block,ee,dh (show 0 < cap by omega)])) (l9 z1) (by omega) (by simp[maxLen]at z9;omega) (fun r hr=>?_) (fun r hr d hd=>?_) (fun i j hi hj=>?_) (fun i j row d hi hj=>?_)
        ·obtain⟨j,hj,e⟩:=Yb hr;obtain⟨p,hp,wK⟩:=q2 j r (by rw[←e];exact Xk hj);rw[←(eV wK).1];exact z5 p (Xl (bY j p hp).1)
        ·obtain⟨j,hj,e⟩:=Yb hr;obtain⟨p,hp,wK⟩:=q2 j r (by rw[←e];exact Xk hj);obtain⟨j2,I4,e2⟩:=Yb hd;obtain⟨p2,Gw,Fb⟩:=(eV wK).2 j2 d (by rw[←e2];exact Xk I4);exact l8 Fb (z6 p (Xl (bY j p hp).1) p2 (Xl Gw))
        ·have hb:=rI i j (by omega) hj;rw[ld];simp only[YS,z1,z4 _ hb];simp[XJ,Xk (show (a+i)*sz+j < xs.length by omega)]
        ·obtain⟨p,hp,wK⟩:=q2 i row hi;obtain⟨p2,Gw,Fb⟩:=(eV wK).2 j d hj;obtain⟨hp',hi'⟩:=bY i p hp;have hj':j < sz:=by rw[←z5 p (Xl hp')];exact(Xn.1 Gw).1
         have hb:=rI i j hi' hj';have hx:xs[(a+i)*sz+j]? =some xs[(a+i)*sz+j]:=Xk (by omega);have:=z2.2 ((a+i)*sz+j) p2 _ (by rw[cB z5 (a+i) j hj',hp'];exact Gw) hx;have:=kG n Fb (wI p (Xl hp') p2 (Xl Gw)) this;simpa[XJ,hx]using this
       rw[←q1]at hD;exact hD
    ·cases hv
   ·cases hv
  |mref=>cases hv
end
def vw (h:Nat→Chunk)(p:PV):Option D:=bp h 6 p
def tc (h:Nat→Chunk)(p:PV):List Nat:=cT h 6 p
theorem M5 {h h':Nat→Chunk}{p:PV}(e:∀k∈tc h p,h' k=h k):vw h' p=vw h p:=(fw 6 p e).1
theorem M6 {h h':Nat→Chunk}{p:PV}(e:∀k∈tc h p,h' k=h k):tc h' p=tc h p:=(fw 6 p e).2
section
variable {X:Cfg}{ops:Array Oper}{s:FS}{o:Oper}(hd:∀d,o.dst=some d→d < X.n)
include hd
theorem M7 {fo:Operand}{args:Array Operand}{tys:Array Nat}{g:Nat}{caps:List PV}{ds:List D}{r:D}(ho:o.op= .call {callee:= .value fo,args:=args,argTypes:=tys})
 (hf:ev s fo= .clo g caps∨∃cd:List D,ev s fo= .d (.clo g cd)∧caps=cd.map .d)
 (hv:cJ (vw s.heap) (args.toList.map (ev s)++caps)=some ds) (hp:af X.P g ds r) (gS:jh (tc s.heap) (args.toList.map (ev s)++caps)=[]∨r.flat=true):
 bI X ops s o {pv:= .d r,touch:=jh (tc s.heap) (args.toList.map (ev s)++caps)}:=by
 refine⟨hd,fun kc h=>by simp at h,fun s' he hU a w hr K Q hK=>?_⟩;obtain⟨c,hc⟩:=hr;have sQ:∀x,(x=fo∨x∈args)→ev s' x=ev s x:=fun x hx=>zo he x (by
  rw[ho];simp only[Op.operands,Call.operands];rcases hx with rfl|hx
  ·simp
  ·simp[hx])
 have zd:args.toList.map (ev s')=args.toList.map (ev s):=Zr fun x hx=>sQ x (.inr (by simpa using hx));have QN:cJ (vw s'.heap) (args.toList.map (ev s)++caps)=some ds:=by
  rw[←hv];exact gn fun p hp=>M5 fun k hk=>hU k (fJ hp k hk)
 have Um:∀p∈args.toList.map (ev s)++caps,∀k∈tc s'.heap p,k∈jh (tc s.heap) (args.toList.map (ev s)++caps):=by
  intro p hp k hk;refine fJ hp k ?_;have key:tc s'.heap p=tc s.heap p:=M6 fun k hk=>hU k (fJ hp k hk);rw[←key];exact hk
 obtain⟨q1,q2⟩:=eV QN;obtain⟨fvs,ON,uc,Fc⟩:∃fvs:List Value,a.eval fo= .func (.func g) #[] fvs.toArray∧caps.length=fvs.length∧∀(j:Nat) (p:PV) (x:Value),caps[j]? =some p→fvs[j]? =some x→RepP c w p x:=by
  have h0:=bM hc fo;rw[sQ fo (.inl rfl)]at h0;rcases hf with hf|⟨cd,hf,rfl⟩
  ·rw[hf]at h0;generalize a.eval fo=u at h0;cases h0 with
   |clo _ _ vs hl bA=>exact⟨vs,rfl,hl,bA⟩
  ·rw[hf]at h0;generalize a.eval fo=u at h0;have h0:=co h0;cases h0 with
   |clo _ _ vs hl bA=>
    refine⟨vs,rfl,by simpa using hl,fun j p x hj hx=>?_⟩;simp only[Xz,XO]at hj;obtain⟨y,hy,rfl⟩:=hj;exact .d _ _ (bA j y x hy hx)
 have bA:dZ (lw c s'.heap (jh (tc s.heap) (args.toList.map (ev s)++caps))) w ds (args.toList.map a.eval++fvs):=by
  refine⟨by rw[←q1];simp[uc],fun j d x hj hx=>?_⟩;obtain⟨p,hp,wK⟩:=q2 j d hj;refine kG hc 6 wK (Um p (Xl hp)) ?_;by_cases hlt:j < args.toList.length
  ·rw[X4 (by simpa using hlt)]at hp hx;simp only[Xz,XO]at hp hx;obtain⟨y,hy,rfl⟩:=hp;obtain⟨y',hy',rfl⟩:=hx;rw[hy]at hy';cases hy';have:=bM hc y;rwa [sQ y (.inr (by simpa using Xl hy))]at this
  ·rw[XK (by simpa using hlt)]at hp hx;simp only[XC]at hp hx;exact Fc _ p x hp hx
 have iW:=hp.2 _ w (args.toList.map a.eval++fvs) (fun b hb=>hc.lt hb.1) (hc.ginv.keep ⟨XB _,fun _ _ _=>rfl,fun b _ hb=>hb.1⟩) bA;have cr:(execOp a.eval o).run X.P w= .ok (.enter g (args.toList.map a.eval++fvs).toArray) w:=by
  have e:(args.toList.map a.eval++fvs).toArray=args.map a.eval++fvs.toArray:=by
   apply _h;simp
  rw[e];simp[execOp,ho,resolve,ON,Deferred.ofValue,invoke];exact hp.1 _ _
 unfold Oper.wp;rw[cr,Oper.upon_enter];refine iW.mono ?_;rintro e w' ⟨v,rfl,hv',hx⟩;have SD:=hc.grow hx;refine hK v w' ⟨c,SD.put (.d _ _ ?_) hd⟩;rcases gS with h0|hflat
 ·refine hv'.keep ⟨XB _,fun _ _ _=>rfl,fun b _ hb=>⟨hb,fun k hk=>?_⟩⟩;rw[h0]at hk;simp at hk
 ·exact Jp hv' hflat
end
theorem rY {size:Nat}(place:Nat→Option (Nat × Nat))(iG:∀i,place i=some (i*size,size)):∀(vs:List Value) (i:Nat) (done rest:List Value),(∀v∈vs,v.cells.size=size)→done.length=i*size→rest.length=vs.length*size→
 Instr.fill place (done++rest).toArray ((vs.zipIdx i).map fun(v,j)=>(j,v))=some (done++(vs.map fun v=>v.cells.toList).flatten).toArray
 |[],i,done,rest,_,_,hr=>by
  have:rest=[]:=X9 (by simpa using hr);subst this;simp[Instr.fill]
 |v::vs,i,done,rest,hv,VP,hr=>by
  have h0:=hv v (by simp);rw[XA,YY]at hr;simp only[List.zipIdx_cons,Xm];rw[xX place _ i (i*size) size v _ (iG i) h0 (by simp;omega)];have e:ay (done++rest) (i*size) v.cells.toList=(done++v.cells.toList)++rest.drop size:=by
   unfold ay;have hl:v.cells.toList.length=size:=by simpa using h0
   rw[←VP,List.take_left,hl,_d,L' (by omega),Ya];congr 1;congr 1;omega
  simp only[Y1];rw[e,rY place iG vs (i+1) (done++v.cells.toList) (rest.drop size) (fun x hx=>hv x (by simp[hx])) (by rw[XY,VP,YY];simp;omega) (by rw[XI];omega)];simp
section
variable {X:Cfg}{ops:Array Oper}{s:FS}{o:Oper}(hd:∀d,o.dst=some d→d < X.n)
include hd
theorem xk {t e n sz:Nat}{parts:Array (Nat × Operand)}{ti te:TI}{rows:List (List D)}(ho:o.op= .buildSlice t n parts)(ht:aT X.P t=some ti)(he':ti.elem=some e)(gL:aT X.P e=some te)
 (cP:te.size=sz) (wJ:0 < sz) (pb:0 < n) (QO:n*sz≤16777216) (ML:rows.length=n) (lq:parts.size=n) (hp:∀(j:Nat) (i:Nat) (x:Operand),parts[j]? =some (i,x)→i=j∧∃ds,rows[j]? =some ds∧uF (cR (ev s x))=some ds∧xY (ev s x)=true∧ds.length=sz):
 bI X ops s o {pv:= .d (.sl sz rows)}:=
 d4 hd (fun kc h=>by simp at h) fun s' he _ a w c hc=>by
  obtain⟨i,d,z,tk⟩:=ig ht;obtain⟨ie,de,ze,tke⟩:=ig gL;have j4:d= .slice e:=by
   have:=tk.elem;rw[he']at this;cases d<;>simp[gm]at this;rw[this]
  subst j4;obtain⟨vs,Dk⟩:∃vs:List Value,vs=parts.toList.map fun p=>a.eval p.2:=⟨_,rfl⟩;have Pu:vs.length=n:=by rw[Dk];simpa using lq
  have bY:∀(j:Nat) (ds:List D) (v:Value),rows[j]? =some ds→vs[j]? =some v→dZ c.M w ds v.cells.toList∧(∀e∈ds,e.one=true)∧ds.length=sz:=by
   intro j ds v hj hv;rw[Dk]at hv;simp only[Xz,X6,XO]at hv;obtain⟨⟨i,y⟩,hy,rfl⟩:=hv;obtain⟨-,ds',g1,g2,g3,g4⟩:=hp j i y hy;rw[hj]at g1;cases g1;have fR:y∈o.op.operands:=by
    rw[ho];simp only[Op.operands,_c,XQ];exact⟨(i,y),by simpa using Z1 hy,rfl⟩
   have bA:=bM hc y;rw[he y fR]at bA;obtain⟨r1,r2⟩:=kr bA g3;have fS:=qx g2;refine⟨⟨?_,fun k e v hk hv=>?_⟩,fun e he'=>?_,g4⟩
   ·have:=r1.1;rw[fS,XC]at this;exact this
   ·exact co (r1.2 k (.d e) v (by rw[fS,Xz,hk];rfl) hv)
   ·have:=r2 (.d e) (by rw[fS];exact Y8 he');exact this
  have IJ:∀v∈vs,v.cells.size=sz:=by
   intro v hv;obtain⟨j,hj,e⟩:=Yb hv;have Un:j < rows.length:=by omega
   have:=(bY j rows[j] v (Xk Un) (by rw[←e];exact Xk hj));have h2:=this.1.1;simp at h2;omega
  have Fd:(parts.map fun(i,x)=>(i,a.eval x)).toList=((vs.zipIdx 0).map fun(v,j)=>(j,v)):=by
   apply Yj;intro j;simp only[Z9,Xz,List.getElem?_zipIdx,Dk,X6];cases hj:parts[j]? with
   |none=>rfl
   |some ix=>
    obtain⟨i,x⟩:=ix;obtain⟨rfl,-⟩:=hp j i x hj;simp
  have Px:ze.cells.size=sz:=by rw[←cP,←tke.zsize,←tke.zcells];simp
  have L6:Instr.fill (fun i=>some (i*sz,sz)) ((_b (n*sz)).map (ze.cells[· % ze.cells.size]!)) (parts.map fun(i,x)=>(i,a.eval x)).toList=some ((vs.map fun v=>v.cells.toList).flatten).toArray:=by
   have:=rY (size:=sz) (fun i=>some (i*sz,sz)) (fun _=>rfl) vs 0 [] ((_b (n*sz)).map (ze.cells[· % ze.cells.size]!)).toList IJ (by simp) (by simp[Pu]);rw[Fd];rw[Ya,Ya,V']at this;exact this
  have gS:∀r∈vs.map fun v=>v.cells.toList,r.length=sz:=by
   intro r hr;obtain⟨v,hv,rfl⟩:=XQ.1 hr;simpa using IJ v hv
  have hx:=jg w (.cells ((vs.map fun v=>v.cells.toList).flatten).toArray e);refine⟨.value (.slice (some ⟨w.heap.size,0,none⟩) n n),_,w.alloc (.cells ((vs.map fun v=>v.cells.toList).flatten).toArray e),?_,.inl rfl,c,hc.grow hx,.d _ _ ?_⟩
  ·have jy:∀o:Obj,({w with heap:=w.heap.push o}:World)=w.alloc o:=fun o=>(J' w o);have cr:(Instr.buildSlice t n (parts.map fun(i,x)=>(i,a.eval x))).run X.P w= .ok (.slice (some ⟨w.heap.size,0,none⟩) n n) (w.alloc (.cells ((vs.map fun v=>v.cells.toList).flatten).toArray e)):=by
    have bB:¬(n*sz=0):=Nat.ne_of_gt (Nat.mul_pos pb wJ);unfold Instr.buildSlice;simp only[Sem.run_bind,run_underlying tk.und,Result.andThen_ok,sizeOf,typeInfo,run_program,tke.info,Sem.run_pure,tke.size,cP];rw[if_neg (by omega),if_neg bB];simp only[Sem.run_bind,zeroValue,typeInfo,run_program,tke.info,Result.andThen_ok,Sem.run_pure,tke.zero,L6];simp[newRow,newObj,Sem.run,jy]
   simp only[execOp,ho];rw[Sem.run_bind,cr];rfl
  ·have hM:∀b,c.M b→b < w.heap.size:=fun b hb=>hc.lt hb;have hk:Keep c.M w c.M (w.alloc (.cells ((vs.map fun v=>v.cells.toList).flatten).toArray e)):=Keep.ext hx hM;subst ML;refine .sl sz rows w.heap.size 0 rows.length (fun i j=>((vs[i]?.map fun v=>v.cells.toList).getD []).getD j undef) (fun h=>by have:=hM _ h;omega) (by rw[size_alloc];omega) (XB _)
    (by have:rows.length≤rows.length*sz:=Nat.le_mul_of_pos_right _ wJ;omega) (fun r hr=>?_) (fun r hr=>?_) (fun i j hi hj=>?_) (fun i j row d hi hj=>?_)
   ·obtain⟨j,hj,e⟩:=Yb hr;exact(bY j r vs[j] (by rw[←e];exact Xk hj) (Xk (by omega))).2.2
   ·obtain⟨j,hj,e⟩:=Yb hr;exact(bY j r vs[j] (by rw[←e];exact Xk hj) (Xk (by omega))).2.1
   ·have hv:vs[i]? =some vs[i]:=Xk (by omega);have hf:=cB (rows:=vs.map fun v=>v.cells.toList) gS i j hj;rw[Xz,hv]at hf;simp only[YS,jD,XG,List.getElem?_toArray,hf,hv,Ye,YI,Y6];have hl:j < vs[i].cells.toList.length:=by
     have:=IJ vs[i] (Ym (by omega));simpa[this]using hj
    simp[XJ,Xk hl]
   ·have hi':i < rows.length:=(Xn.1 hi).1;have hv:vs[i]? =some vs[i]:=Xk (by omega);obtain⟨g1,g2,g3⟩:=bY i row vs[i] hi hv;have hl:j < vs[i].cells.toList.length:=by rw[←g1.1];exact(Xn.1 hj).1
    have:=(g1.2 j d _ hj (Xk hl)).keep hk;simpa[hv,XJ,Xk hl]using this
theorem uK {t e n sz nk:Nat}{parts:Array (Nat × Operand)}{ti te:TI}{rows:List (List PV)}(ho:o.op= .buildSlice t n parts)(ht:aT X.P t=some ti)(he':ti.elem=some e)(gL:aT X.P e=some te)
 (cP:te.size=sz) (wJ:0 < sz) (pb:0 < n) (QO:n*sz≤16777216) (ML:rows.length=n) (lq:parts.size=n) (hk:s.heap nk= .none) (tQ:¬nk < X.m) (hp:∀(j:Nat) (i:Nat) (x:Operand),parts[j]? =some (i,x)→i=j∧rows[j]? =some (cR (ev s x))∧xY (ev s x)=true∧(cR (ev s x)).length=sz):
 bI X ops s o {pv:= .own nk 0,eff:=[(nk,.row e sz 0 rows)],touch:=[nk]}:=
 d4 hd (fun kc h=>by simp at h;subst h;simp) fun s' he hU a w c hc=>by
  obtain⟨i,d,z,tk⟩:=ig ht;obtain⟨ie,de,ze,tke⟩:=ig gL;have j4:d= .slice e:=by
   have:=tk.elem;rw[he']at this;cases d<;>simp[gm]at this;rw[this]
  subst j4;obtain⟨vs,Dk⟩:∃vs:List Value,vs=parts.toList.map fun p=>a.eval p.2:=⟨_,rfl⟩;have Pu:vs.length=n:=by rw[Dk];simpa using lq
  have bY:∀(j:Nat) (ds:List PV) (v:Value),rows[j]? =some ds→vs[j]? =some v→bG c w ds v.cells.toList∧(∀e∈ds,e.one=true)∧ds.length=sz:=by
   intro j ds v hj hv;rw[Dk]at hv;simp only[Xz,X6,XO]at hv;obtain⟨⟨i,y⟩,hy,rfl⟩:=hv;obtain⟨-,g1,g3,g4⟩:=hp j i y hy;rw[hj]at g1;cases g1;have fR:y∈o.op.operands:=by
    rw[ho];simp only[Op.operands,_c,XQ];exact⟨(i,y),by simpa using Z1 hy,rfl⟩
   have bA:=bM hc y;rw[he y fR]at bA;obtain⟨r1,r2⟩:=kr bA g3;exact⟨r1,r2,g4⟩
  have IJ:∀v∈vs,v.cells.size=sz:=by
   intro v hv;obtain⟨j,hj,e⟩:=Yb hv;have Un:j < rows.length:=by omega
   have:=(bY j rows[j] v (Xk Un) (by rw[←e];exact Xk hj));have h2:=this.1.1;simp at h2;omega
  have Fd:(parts.map fun(i,x)=>(i,a.eval x)).toList=((vs.zipIdx 0).map fun(v,j)=>(j,v)):=by
   apply Yj;intro j;simp only[Z9,Xz,List.getElem?_zipIdx,Dk,X6];cases hj:parts[j]? with
   |none=>rfl
   |some ix=>
    obtain⟨i,x⟩:=ix;obtain⟨rfl,-⟩:=hp j i x hj;simp
  have Px:ze.cells.size=sz:=by rw[←cP,←tke.zsize,←tke.zcells];simp
  have L6:Instr.fill (fun i=>some (i*sz,sz)) ((_b (n*sz)).map (ze.cells[· % ze.cells.size]!)) (parts.map fun(i,x)=>(i,a.eval x)).toList=some ((vs.map fun v=>v.cells.toList).flatten).toArray:=by
   have:=rY (size:=sz) (fun i=>some (i*sz,sz)) (fun _=>rfl) vs 0 [] ((_b (n*sz)).map (ze.cells[· % ze.cells.size]!)).toList IJ (by simp) (by simp[Pu]);rw[Fd];rw[Ya,Ya,V']at this;exact this
  have gS:∀r∈vs.map fun v=>v.cells.toList,r.length=sz:=by
   intro r hr;obtain⟨v,hv,rfl⟩:=XQ.1 hr;simpa using IJ v hv
  have hx:=jg w (.cells ((vs.map fun v=>v.cells.toList).flatten).toArray e);have hk':s'.heap nk= .none:=by rw[hU nk (by simp)];exact hk
  have Gx:(vs.map fun v=>v.cells.toList).flatten.length=n*sz:=by rw[cN gS];simp[Pu]
  have bA:bG c w rows.flatten (vs.map fun v=>v.cells.toList).flatten:=by
   refine⟨?_,fun j d x hj hx=>?_⟩
   ·rw[cN (fun r hr=>?_),Gx,ML];obtain⟨j,hj,e⟩:=Yb hr;exact(bY j r vs[j] (by rw[←e];exact Xk hj) (Xk (by omega))).2.2
   ·have za:∀r∈rows,r.length=sz:=fun r hr=>by
     obtain⟨j,hj,e⟩:=Yb hr;exact(bY j r vs[j] (by rw[←e];exact Xk hj) (Xk (by omega))).2.2
    have Uo:j < n*sz:=by rw[←Gx];exact(Xn.1 hx).1
    have q1:j / sz < n:=Zw (by rw[Zp];exact Uo);have q2:j % sz < sz:=Y' _ wJ;have q3:j / sz*sz+j % sz=j:=by rw[Zp];exact ZN j sz
    rw[←q3,cB za _ _ q2]at hj;rw[←q3,cB gS _ _ q2,Xz]at hx;have h1:rows[j / sz]? =some rows[j / sz]:=Xk (by omega);have h2:vs[j / sz]? =some vs[j / sz]:=Xk (by omega);rw[h1]at hj;rw[h2]at hx;exact(bY _ _ _ h1 h2).1.2 _ d x hj hx
  have cX:OwnV (w.alloc (.cells ((vs.map fun v=>v.cells.toList).flatten).toArray e)) e sz (.slice (some ⟨w.heap.size,0,none⟩) n n) rows.length ((vs.map fun v=>v.cells.toList).flatten):=by
   rw[ML];refine .row _ n n _ _ pb (jD w _) (XB _) (by have:n≤n*sz:=Nat.le_mul_of_pos_right _ wJ;unfold maxLen;omega) (by simp only[YH];exact Gx) Gx ?_;rw[Y1,XN (by omega)]
  obtain⟨c',q1,q2⟩:=hc.new_row (w':=w.alloc (.cells ((vs.map fun v=>v.cells.toList).flatten).toArray e)) hk' tQ e sz rows _ _ hx cX (fun b hb=>by rw[dh pb]at hb;cases hb;exact XB _) bA (fun r hr=>by
   obtain⟨j,hj,e⟩:=Yb hr;exact(bY j r vs[j] (by rw[←e];exact Xk hj) (Xk (by omega))).2.2) (fun r hr=>by
   obtain⟨j,hj,e⟩:=Yb hr;exact(bY j r vs[j] (by rw[←e];exact Xk hj) (Xk (by omega))).2.1)
  refine⟨.value (.slice (some ⟨w.heap.size,0,none⟩) n n),_,w.alloc (.cells ((vs.map fun v=>v.cells.toList).flatten).toArray e),?_,.inl rfl,c',q1,q2⟩;have jy:∀o:Obj,({w with heap:=w.heap.push o}:World)=w.alloc o:=fun o=>(J' w o);have cr:(Instr.buildSlice t n (parts.map fun(i,x)=>(i,a.eval x))).run X.P w= .ok (.slice (some ⟨w.heap.size,0,none⟩) n n) (w.alloc (.cells ((vs.map fun v=>v.cells.toList).flatten).toArray e)):=by
   have bB:¬(n*sz=0):=Nat.ne_of_gt (Nat.mul_pos pb wJ);unfold Instr.buildSlice;simp only[Sem.run_bind,run_underlying tk.und,Result.andThen_ok,sizeOf,typeInfo,run_program,tke.info,Sem.run_pure,tke.size,cP];rw[if_neg (by omega),if_neg bB];simp only[Sem.run_bind,zeroValue,typeInfo,run_program,tke.info,Result.andThen_ok,Sem.run_pure,tke.zero,L6];simp[newRow,newObj,Sem.run,jy]
  simp only[execOp,ho];rw[Sem.run_bind,cr];rfl
theorem uL {t e nk:Nat}{ti te:TI}(ho:o.op= .buildSlice t 0 #[])(ht:aT X.P t=some ti)(he':ti.elem=some e)(gL:aT X.P e=some te)(hk:s.heap nk= .none)(tQ:¬nk < X.m):
 bI X ops s o {pv:= .own nk 0,eff:=[(nk,.row e te.size 0 [])],touch:=[nk]}:=
 d4 hd (fun kc h=>by simp at h;subst h;simp) fun s' he hU a w c hc=>by
  obtain⟨i,d,z,tk⟩:=ig ht;obtain⟨ie,de,ze,tke⟩:=ig gL;have j4:d= .slice e:=by
   have:=tk.elem;rw[he']at this;cases d<;>simp[gm]at this;rw[this]
  subst j4;have hk':s'.heap nk= .none:=by rw[hU nk (by simp)];exact hk
  obtain⟨c',q1,q2⟩:=hc.new_row (w':=w.alloc (.cells #[] e)) hk' tQ e te.size [] _ [] (jg w _) (.zero ⟨w.heap.size,0,none⟩) (fun b hb=>by cases hb) ⟨rfl,fun j d x h=>by simp at h⟩ (by simp) (by simp);refine⟨_,_,_,?_,.inl rfl,c',q1,q2⟩;have jy:∀o:Obj,({w with heap:=w.heap.push o}:World)=w.alloc o:=fun o=>(J' w o);have cr:(Instr.buildSlice t 0 #[]).run X.P w= .ok (.slice (some ⟨w.heap.size,0,none⟩) 0 0) (w.alloc (.cells #[] e)):=by
   simp[Instr.buildSlice,run_underlying tk.und,sizeOf,typeInfo,tke.info,Instr.fill,newRow,newObj,Sem.run,jy];rw[show Array.map (fun _=>(default:Value)) (_b 0)=#[] from Array.eq_empty_of_size_eq_zero (by simp)]
  simp only[execOp,ho];rw[Sem.run_bind];simp only[Array.map_empty,cr];rfl
theorem zB {t e nk:Nat}{l x:Operand}{ti te:TI}{zv:Value}{k k':IntKind}{n:Int}(ho:o.op= .makeSlice t l x)(ht:aT X.P t=some ti)(he':ti.elem=some e)(gL:aT X.P e=some te)
 (rH:te.zero=[zv]) (pb:0 < n) (hb:(te.bytes:Int)*n≤281474976710656) (hm:n≤9223372036854775807) (hl:ev s l= .d (.v (.int k n))) (hx:ev s x= .d (.v (.int k' n))) (hk:s.heap nk= .none) (tQ:¬nk < X.m):
 bI X ops s o {pv:= .own nk 0,eff:=[(nk,.row e 1 0 (XV n.toNat [.d (.v zv)]))],touch:=[nk]}:=
 d4 hd (fun kc h=>by simp at h;subst h;simp) fun s' he hU a w c hc=>by
  obtain⟨i,d,z,tk⟩:=ig ht;obtain⟨ie,de,ze,tke⟩:=ig gL;have j4:d= .slice e:=by
   have:=tk.elem;rw[he']at this;cases d<;>simp[gm]at this;rw[this]
  subst j4;have e1:=bM hc l;rw[he l (by simp[ho,Op.operands]),hl]at e1;have e2:=bM hc x;rw[he x (by simp[ho,Op.operands]),hx]at e2;have e3:a.eval l= .int k n:=by generalize a.eval l=u at e1;cases co e1;rfl
  have e4:a.eval x= .int k' n:=by generalize a.eval x=u at e2;cases co e2;rfl
  have Px:ze.cells=#[zv]:=by apply _h;rw[tke.zcells,rH]
  have cP:ie.size=1:=by have:=tke.zsize;rw[rH]at this;rw[tke.size];simpa using this.symm
  have SE:Go.madeCells ze.cells (n.toNat*ie.size)=(XV n.toNat zv).toArray:=by
   rw[Px,cP,X'];apply _h;simp only[Go.madeCells,Z9,Array.toList_range];apply List.ext_getElem
   ·simp
   ·intro j h1 h2;simp[Nat.mod_one]
  have hk':s'.heap nk= .none:=by rw[hU nk (by simp)];exact hk
  have za:∀r∈XV n.toNat [PV.d (.v zv)],r=[PV.d (.v zv)]:=fun r hr=>Zv hr;have hflat:(XV n.toNat [PV.d (.v zv)]).flatten=XV n.toNat (PV.d (.v zv)):=by
   induction n.toNat with
   |zero=>rfl
   |succ m ih=>rw[List.replicate_succ,YU,ih];rfl
  have Up:zv.oneCell'=true:=tke.one zv (by rw[rH];simp);obtain⟨c',q1,q2⟩:=hc.new_row (w':=w.alloc (.cells (XV n.toNat zv).toArray e)) hk' tQ e 1 (XV n.toNat [PV.d (.v zv)]) (.slice (some ⟨w.heap.size,0,none⟩) n.toNat n.toNat) (XV n.toNat zv) (jg w _) (by
   rw[List.length_replicate];refine .row _ n.toNat n.toNat _ _ (by omega) (jD w _) (XB _) (by unfold maxLen;omega) (by simp) (by simp) ?_;rw[Y1,XN (by simp)]) (fun b hb=>by rw[dh (by omega)]at hb;cases hb;exact XB _) (by
   rw[hflat];refine⟨by simp,fun j d u hj hu=>?_⟩;rw[ZX]at hj hu;split at hj
   ·cases hj;rename_i hlt;rw[if_pos hlt]at hu;cases hu;exact .d _ _ (.v _)
   ·cases hj) (fun r hr=>by rw[za r hr];rfl) (fun r hr d hd=>by rw[za r hr]at hd;rw[Yc.1 hd];exact Up)
  refine⟨_,_,_,?_,.inl rfl,c',q1,q2⟩;have cr:=run_make (P:=X.P) w t e ie ze tk.und tke.info tke.zero k k' n n (by omega) (ZG _) (by rw[tke.bytes];exact hb) hm;rw[SE]at cr;simp only[execOp,ho,e3,e4];rw[Sem.run_bind,cr];rfl
theorem D3 {src dst:Nat}{x:Operand}{k k':IntKind}{n:Int}{ts td:TI}(ho:o.op= .convert src dst x)(hs:aT X.P src=some ts)(ht:aT X.P dst=some td)(hi:td.int=some k)(hx:ev s x= .d (.v (.int k' n))):
 bI X ops s o {pv:= .d (.v (.int k (k.wrap n)))}:=
 aM hd fun s' he _ a w c hc=>by
  have h1:=cZ hc ((he x (by simp[ho,Op.operands])).trans hx);obtain⟨i,d,z,tk⟩:=ig hs;obtain⟨i2,d2,z2,tk2⟩:=ig ht;have zf:d2= .int k:=by
   have:=tk2.int;rw[hi]at this;cases d2<;>simp[M1]at this;rw[this]
  subst zf;refine⟨.int k (k.wrap n),?_,.d _ _ (.v _)⟩;have cr:(convert src dst (.int k' n)).run X.P w= .ok (.int k (k.wrap n)) w:=by
   simp[convert,run_underlying tk.und,run_underlying tk2.und,Conv.intToInt]
  simp only[execOp,ho,h1];rw[Sem.run_bind,cr];rfl
theorem PR {x y:Operand}{tys:Array Nat}{k:IntKind}{m n:Int}(ho:o.op= .call {callee:= .builtin .min,args:=#[x,y],argTypes:=tys})(hx:ev s x= .d (.v (.int k m)))(hy:ev s y= .d (.v (.int k n))):
 bI X ops s o {pv:= .d (.v (.int k (if n < m then n else m)))}:=
 aM hd fun s' he _ a w c hc=>by
  have h1:=cZ hc ((he x (by simp[ho,Op.operands,Call.operands])).trans hx);have h2:=cZ hc ((he y (by simp[ho,Op.operands,Call.operands])).trans hy);exact⟨.int k (if n < m then n else m),by simp[execOp,ho,resolve,h1,h2,invoke,builtin,Builtin.min_,Builtin.min2],.d _ _ (.v _)⟩
theorem PS {x y:Operand}{tys:Array Nat}{k:IntKind}{m n:Int}(ho:o.op= .call {callee:= .builtin .max,args:=#[x,y],argTypes:=tys})(hx:ev s x= .d (.v (.int k m)))(hy:ev s y= .d (.v (.int k n))):
 bI X ops s o {pv:= .d (.v (.int k (if m < n then n else m)))}:=
 aM hd fun s' he _ a w c hc=>by
  have h1:=cZ hc ((he x (by simp[ho,Op.operands,Call.operands])).trans hx);have h2:=cZ hc ((he y (by simp[ho,Op.operands,Call.operands])).trans hy);exact⟨.int k (if m < n then n else m),by simp[execOp,ho,resolve,h1,h2,invoke,builtin,Builtin.max_,Builtin.max2],.d _ _ (.v _)⟩
end
theorem ma (T:List Nat)(h:Nat→Chunk)(k:Nat):cE (T.map fun k=>(k,.gone)) h k=if k∈T then .gone else h k:=by
 induction T with
 |nil=>simp[cE]
 |cons a T ih=>
  simp only[Xm,cE];by_cases e:k=a
  ·simp[e]
  ·rw[if_neg e,ih];simp[e]
theorem RealC.freeze {X:Cfg}{s:FS}{a:Act}{w:World}{c:Cx}(h:RealC X s a w c)(T:List Nat):
 RealC X {s with heap:=cE (T.map fun k=>(k,.gone)) s.heap} a w {c with M:=lw c s.heap T}:=by
 have cY:=ma T s.heap;have hk:=rX c s.heap T w;have cG:∀k ch,Cx.block {c with M:=lw c s.heap T} k ch=c.block k ch:=fun k ch=>by cases ch<;>rfl
 have hle:c.le {c with M:=lw c s.heap T}:=⟨fun _ _ h=>h,fun _ _ _ h=>h⟩;refine⟨h.size,h.defers,h.ext,h.inv,h.fresh,fun b=>?_,fun k b hb=>?_,fun k k' b hb hb'=>?_,fun t=>(h.env t).keep hle hk,fun k=>?_,h.lent⟩
 ·constructor
  ·rintro⟨hm,hT⟩;rcases(h.mu b).1 hm with h0|⟨k,Gy⟩
   ·exact .inl h0
   ·refine .inr ⟨k,?_⟩;have Uq:k∉T:=fun dB=>hT k dB Gy;simp only[cY,if_neg Uq,cG];exact Gy
  ·rintro (h0|⟨k,Gy⟩)
   ·refine⟨(h.mu b).2 (.inl h0),fun k _ e=>?_⟩;rcases(h.new k b e).1 with h1|h1
    ·exact(h.fresh b h0).2 h1
    ·have:=(h.fresh b h0).1;omega
   ·simp only[cY,cG]at Gy;split at Gy
    ·simp[Cx.block]at Gy
    ·rename_i Uq;refine⟨(h.mu b).2 (.inr ⟨k,Gy⟩),fun k' hk' e=>?_⟩;have:=h.apart k k' b Gy e;subst this;exact Uq hk'
 ·simp only[cY,cG]at hb;split at hb
  ·simp[Cx.block]at hb
  ·exact h.new k b hb
 ·simp only[cY,cG]at hb hb';split at hb
  ·simp[Cx.block]at hb
  ·split at hb'
   ·simp[Cx.block]at hb'
   ·exact h.apart k k' b hb hb'
 ·simp only[cY];split
  ·exact .gone
  ·exact(h.chunk k).keep hle hk (fun _ _=>rfl) rfl rfl
abbrev cu:=List (Nat × PV)
def fp:cu→Nat→PV
 |[],_=> .any
 |(a,p)::l,t=>if t=a then p else fp l t
def aG:List Chunk→Nat→Chunk
 |[],_=> .none
 |c::_,0=>c
 |_::l,k+1=>aG l k
def bQ (e:cu)(h:List Chunk):FS:=⟨fp e,aG h⟩
def dI (e:cu):Operand→PV
 | .tmp t=>fp e t
 | .const v=> .d (.v v)
 | .func f=> .d (.clo f [])
 | .global _=> .any
theorem aD (e:cu)(h:List Chunk)(x:Operand):ev (bQ e h) x=dI e x:=by cases x<;>rfl
mutual
def aq (n:Nat):PV→Bool
 | .ptr k _=>decide (k < n)
 | .own k _=>decide (k < n)
 | .rp k _ _ _ _=>decide (k < n)
 | .osl k _ _ _ _=>decide (k < n)
 | .mref k=>decide (k < n)
 | .agg l=>an n l
 | .tup l=>an n l
 | .clo _ caps=>an n caps
 | .d _=>true
 | .any=>true
def an (n:Nat):List PV→Bool
 |[]=>true
 |p::l=>aq n p&&an n l
end
theorem jk {n:Nat}:∀{l:List PV},an n l=true→∀p∈l,aq n p=true
 |q::l,h,p,hp=>by
  simp only[an,Xy]at h;rcases X7.1 hp with rfl|hp
  ·exact h.1
  ·exact jk h.2 p hp
def cC (n:Nat):List (List PV)→Bool
 |[]=>true
 |r::l=>an n r&&cC n l
theorem bn (n:Nat):∀(l:List D),an n (l.map .d)=true
 |[]=>rfl
 |x::l=>by simp only[Xm,an,aq,bn n l,Yp]
theorem az (n:Nat):∀(l:List (List D)),cC n (ab l)=true
 |[]=>rfl
 |x::l=>by
  have:=az n l;simp only[ab]at this;simp only[ab,Xm,cC,bn,this,Yp]
def aQ (n:Nat):Chunk→Bool
 | .box _ cells=>an n cells
 | .row _ _ _ rows=>cC n rows
 |_=>true
def aH (n:Nat):List Chunk→Bool
 |[]=>true
 |c::l=>aQ n c&&aH n l
def eh (n:Nat):cu→Bool
 |[]=>true
 |(_,p)::l=>aq n p&&eh n l
def GV (e:cu):cu→Prop
 |[]=>True
 |(t,p)::l=>fp e t=p∧GV e l
theorem uM {n:Nat}:∀{e:cu},eh n e=true→∀t,aq n (fp e t)=true
 |[],_,_=>rfl
 |(t',p)::l,h,t=>by
  simp only[eh,Xy]at h;simp only[fp];by_cases ht:t=t'
  ·rw[if_pos ht];exact h.1
  ·rw[if_neg ht];exact uM h.2 t
theorem rZ {n:Nat}:∀{h:List Chunk},aH n h=true→∀k,aQ n (aG h k)=true
 |[],_,_=>rfl
 |c::l,h,k=>by
  simp only[aH,Xy]at h;cases k with
  |zero=>exact h.1
  |succ k=>exact rZ h.2 k
mutual
def ren (ρ:Nat→Nat):PV→PV
 | .d x=> .d x
 | .any=> .any
 | .ptr k o=> .ptr (ρ k) o
 | .own k g=> .own (ρ k) g
 | .rp k g sz i j=> .rp (ρ k) g sz i j
 | .osl k g sz a n=> .osl (ρ k) g sz a n
 | .clo g caps=> .clo g (iJ ρ caps)
 | .agg l=> .agg (iJ ρ l)
 | .tup l=> .tup (iJ ρ l)
 | .mref k=> .mref (ρ k)
def iJ (ρ:Nat→Nat):List PV→List PV
 |[]=>[]
 |p::l=>ren ρ p::iJ ρ l
end
def jE (ρ:Nat→Nat):List (List PV)→List (List PV)
 |[]=>[]
 |r::l=>iJ ρ r::jE ρ l
def lj (ρ:Nat→Nat):Chunk→Chunk
 | .box T cells=> .box T (iJ ρ cells)
 | .row E sz g rows=> .row E sz g (jE ρ rows)
 |c=>c
theorem cU (ρ:Nat→Nat):∀(l:List PV),iJ ρ l=l.map (ren ρ)
 |[]=>rfl
 |p::l=>by simp only[iJ,cU ρ l,Xm]
theorem eH (ρ:Nat→Nat):∀(l:List (List PV)),jE ρ l=l.map (·.map (ren ρ))
 |[]=>rfl
 |p::l=>by simp only[jE,eH ρ l,cU,Xm]
theorem D4 (ρ:Nat→Nat):∀(l:List D),iJ ρ (l.map .d)=l.map .d
 |[]=>rfl
 |x::l=>by simp only[Xm,iJ,ren,D4 ρ l]
theorem uN (ρ:Nat→Nat):∀(l:List (List D)),jE ρ (ab l)=ab l
 |[]=>rfl
 |x::l=>by
  have:=uN ρ l;simp only[ab]at this;simp only[ab,Xm,jE,D4,this]
theorem Jr (ρ:Nat→Nat)(l:List (List PV))(i:Nat)(r:List PV):jE ρ (l.set i r)=(jE ρ l).set i (iJ ρ r):=by
 simp only[eH,cU,List.map_set]
theorem Ba (ρ:Nat→Nat)(l:List (List PV)):(jE ρ l).length=l.length:=by rw[eH,XC]
theorem oO (ρ:Nat→Nat)(p:PV):(ren ρ p).one=p.one:=by cases p<;>rfl
theorem qA (ρ:Nat→Nat)(l:List (List PV)):(jE ρ l).flatten=l.flatten.map (ren ρ):=by
 rw[eH,List.map_flatten]
theorem RepP.ren {c c2:Cx}{w:World}{ρ:Nat→Nat}{p:PV}{v:Value}(h:RepP c w p v)(hM:∀d x,RepD c.M w d x→RepD c2.M w d x)(hb:∀k b,c.bl k=some b→c2.bl (ρ k)=some b)(ho:∀k g u,c.ov k g=some u→c2.ov (ρ k) g=some u):RepP c2 w (ren ρ p) v:=by
 induction h with
 |d x v h=>exact .d x v (hM x v h)
 |any v=>exact .any v
 |ptr k off b h=>exact .ptr _ off b (hb _ _ h)
 |own k g v h h1=>exact .own _ g v (ho _ _ _ h) h1
 |rp k g sz i j b n cap h=>exact .rp _ g sz i j b n cap (ho _ _ _ h)
 |osl k g sz a n b o N cap h hn hc h2=>exact .osl _ g sz a n b o N cap (ho _ _ _ h) hn hc h2
 |clo g caps vs hl bA ih=>
  refine .clo g _ vs (by rw[cU,XC];exact hl) fun j d x hj hx=>?_;rw[cU,Xz,XO]at hj;obtain⟨y,hy,rfl⟩:=hj;exact ih j y x hy hx
 |agg caps vs hl h1 bA ih=>
  refine .agg _ vs (by rw[cU,XC];exact hl) (fun d hd=>?_) fun j d x hj hx=>?_
  ·rw[cU]at hd;obtain⟨y,hy,rfl⟩:=XQ.1 hd;rw[oO];exact h1 y hy
  ·rw[cU,Xz,XO]at hj;obtain⟨y,hy,rfl⟩:=hj;exact ih j y x hy hx
 |tup caps vs hl bA ih=>
  refine .tup _ vs (by rw[cU,XC];exact hl) fun j d x hj hx=>?_;rw[cU,Xz,XO]at hj;obtain⟨y,hy,rfl⟩:=hj;exact ih j y x hy hx
 |mref k b h=>exact .mref _ b (hb _ _ h)
theorem bG.ren {c c2:Cx}{w:World}{ρ:Nat→Nat}{ps:List PV}{vs:List Value}(h:bG c w ps vs)(hM:∀d x,RepD c.M w d x→RepD c2.M w d x)(hb:∀k b,c.bl k=some b→c2.bl (ρ k)=some b)(ho:∀k g u,c.ov k g=some u→c2.ov (ρ k) g=some u):bG c2 w (ps.map (ren ρ)) vs:=by
 refine⟨by rw[XC];exact h.1,fun j d x hj hx=>?_⟩;rw[Xz,XO]at hj;obtain⟨y,hy,rfl⟩:=hj;exact(h.2 j y x hy hx).ren hM hb ho
mutual
theorem RY {c c1:Cx}{w:World}{ρ:Nat→Nat}{m:Nat}(hM:∀d x,RepD c.M w d x→RepD c1.M w d x)(hb:∀j,j < m→∀b,c.bl (ρ j)=some b→c1.bl j=some b)(ho:∀j,j < m→∀g u,c.ov (ρ j) g=some u→c1.ov j g=some u):∀(p:PV) (v:Value),aq m p=true→RepP c w (ren ρ p) v→RepP c1 w p v
 | .d x,v,_,h=>by
  simp only[Go.Proofs.YtmicljipaiohkaaGreat.ren]at h;cases h with|d _ _ h=>exact .d x v (hM x v h)
 | .any,v,_,_=> .any v
 | .ptr k off,v,hk,h=>by
  simp only[Go.Proofs.YtmicljipaiohkaaGreat.ren]at h;simp only[aq,decide_eq_true_eq]at hk;cases h with|ptr _ _ b h=>exact .ptr k off b (hb k hk b h)
 | .own k g,v,hk,h=>by
  simp only[Go.Proofs.YtmicljipaiohkaaGreat.ren]at h;simp only[aq,decide_eq_true_eq]at hk;cases h with|own _ _ _ h h1=>exact .own k g v (ho k hk g v h) h1
 | .rp k g sz i j,v,hk,h=>by
  simp only[Go.Proofs.YtmicljipaiohkaaGreat.ren]at h;simp only[aq,decide_eq_true_eq]at hk;cases h with|rp _ _ _ _ _ b n cap h=>exact .rp k g sz i j b n cap (ho k hk g _ h)
 | .osl k g sz a n,v,hk,h=>by
  simp only[Go.Proofs.YtmicljipaiohkaaGreat.ren]at h;simp only[aq,decide_eq_true_eq]at hk;cases h with|osl _ _ _ _ _ b o N cap h hn hc h2=>exact .osl k g sz a n b o N cap (ho k hk g _ h) hn hc h2
 | .mref k,v,hk,h=>by
  simp only[Go.Proofs.YtmicljipaiohkaaGreat.ren]at h;simp only[aq,decide_eq_true_eq]at hk;cases h with|mref _ b h=>exact .mref k b (hb k hk b h)
 | .clo g caps,v,hk,h=>by
  simp only[Go.Proofs.YtmicljipaiohkaaGreat.ren]at h;simp only[aq]at hk;cases h with
  |clo _ _ vs hl bA=>
   rw[cU,XC]at hl;exact .clo g caps vs hl (pJ hM hb ho caps vs hk bA)
 | .agg caps,v,hk,h=>by
  simp only[Go.Proofs.YtmicljipaiohkaaGreat.ren]at h;simp only[aq]at hk;cases h with
  |agg _ vs hl h1 bA=>
   rw[cU,XC]at hl;refine .agg caps vs hl (fun d hd=>?_) (pJ hM hb ho caps vs hk bA);rw[←oO ρ];exact h1 _ (by rw[cU];exact Y8 hd)
 | .tup caps,v,hk,h=>by
  simp only[Go.Proofs.YtmicljipaiohkaaGreat.ren]at h;simp only[aq]at hk;cases h with
  |tup _ vs hl bA=>
   rw[cU,XC]at hl;exact .tup caps vs hl (pJ hM hb ho caps vs hk bA)
theorem pJ {c c1:Cx}{w:World}{ρ:Nat→Nat}{m:Nat}(hM:∀d x,RepD c.M w d x→RepD c1.M w d x)(hb:∀j,j < m→∀b,c.bl (ρ j)=some b→c1.bl j=some b)(ho:∀j,j < m→∀g u,c.ov (ρ j) g=some u→c1.ov j g=some u):∀(l:List PV) (vs:List Value),an m l=true→(∀(j:Nat) (d:PV) (x:Value),(iJ ρ l)[j]? =some d→vs[j]? =some x→RepP c w d x)→∀(j:Nat) (d:PV) (x:Value),l[j]? =some d→vs[j]? =some x→RepP c1 w d x
 |[],_,_,_,j,d,x,hj,_=>by simp at hj
 |p::l,[],_,_,j,d,x,_,hx=>by simp at hx
 |p::l,v::vs,hk,h,j,d,x,hj,hx=>by
  simp only[an,Xy]at hk;cases j with
  |zero=>
   have e1:p=d:=by simpa using hj
   have e2:v=x:=by simpa using hx
   rw[←e1,←e2];exact RY hM hb ho p v hk.1 (h 0 _ v rfl rfl)
  |succ j=>exact pJ hM hb ho l vs hk.2 (fun j d x h1 h2=>h (j+1) d x h1 (by simpa using h2)) j d x (by simpa using hj) (by simpa using hx)
end
theorem tj {m:Nat}{rows:List (List PV)}(h:cC m rows=true):an m rows.flatten=true:=by
 induction rows with
 |nil=>rfl
 |cons r rows ih=>
  simp only[cC,Xy]at h;have app:∀(a b:List PV),an m a=true→an m b=true→an m (a++b)=true:=by
   intro a b ha hb;induction a with
   |nil=>exact hb
   |cons x a iha=>
    simp only[an,Xy]at ha;simp only[X8,an,ha.1,iha ha.2,Yp]
  rw[YU];exact app _ _ h.1 (ih h.2)
def Js:Act:={tmps:=#[],defers:=[]}
structure MSpec (P:Program)(f:Nat)(args:List PV)(h0:List Chunk)(r:PV)(h1:List Chunk):Prop where
 fn:xg P f
 le:h0.length≤h1.length
 ba:an h0.length args=true
 bh:aH h0.length h0=true
 run:∀X:Cfg,X.P=P→X.n=0→X.m=h0.length→∀(w:World) (c:Cx) (vs:List Value),RealC X (bQ [] h0) Js w c→bG c w args vs→
  Calls P f vs.toArray w fun e w'=>∃v c',e= .returned v∧RepP c' w' r v∧RealC X (bQ [] h1) Js w' c'
def eC:List Nat→Nat→Nat→Nat
 |[],nk,j=>nk+j
 |k::_,_,0=>k
 |_::l,nk,j+1=>eC l nk j
theorem ke:∀(ls:List Nat) (nk j:Nat),eC ls nk (ls.length+j)=nk+j
 |[],nk,j=>by simp[eC]
 |k::l,nk,j=>by
  rw[XA,show l.length+1+j=(l.length+j)+1 by omega];exact ke l nk j
theorem mN:∀{ls:List Nat}{nk j:Nat},j < ls.length→ls[j]? =some (eC ls nk j)
 |k::l,nk,0,_=>rfl
 |k::l,nk,j+1,h=>by simpa[eC]using mN (ls:=l) (nk:=nk) (j:=j) (by simpa using h)
theorem zC {ls:List Nat}{nk:Nat}(hn:ls.Nodup)(hlt:∀k∈ls,k < nk){i j:Nat}(h:eC ls nk i=eC ls nk j):i=j:=by
 have old:∀i,i < ls.length→eC ls nk i < nk:=fun i hi=>hlt _ (Xl (mN hi));rcases XP i ls.length with hi|hi<;>rcases XP j ls.length with hj|hj
 ·have h1:=mN (nk:=nk) hi;have h2:=mN (nk:=nk) hj;rw[h]at h1;rw[Xk hi]at h1;rw[Xk hj]at h2;have h3:ls[i]=ls[j]:=XX.inj (h1.trans h2.symm);exact(List.getElem_inj (h₀:=hi) (h₁:=hj) hn).1 h3
 ·have:=old i hi;have h2:=ke ls nk (j - ls.length);rw[show ls.length+(j - ls.length)=j by omega]at h2;omega
 ·have:=old j hj;have h2:=ke ls nk (i - ls.length);rw[show ls.length+(i - ls.length)=i by omega]at h2;omega
 ·have h1:=ke ls nk (i - ls.length);have h2:=ke ls nk (j - ls.length);rw[show ls.length+(i - ls.length)=i by omega]at h1;rw[show ls.length+(j - ls.length)=j by omega]at h2;omega
def kf (ρ:Nat→Nat):Nat→List Chunk→List (Nat × Chunk)
 |_,[]=>[]
 |j,c::l=>(ρ j,lj ρ c)::kf ρ (j+1) l
def ax (h:Nat→Chunk)(ρ:Nat→Nat):Nat→List Chunk→Prop
 |_,[]=>True
 |j,c::l=>h (ρ j)=lj ρ c∧ax h ρ (j+1) l
theorem ya {h:Nat→Chunk}{ρ:Nat→Nat}:∀{l:List Chunk}{i:Nat},ax h ρ i l→∀{j:Nat},j < l.length→h (ρ (i+j))=lj ρ (aG l j)
 |c::l,i,⟨h1,h2⟩,0,_=>h1
 |c::l,i,⟨h1,h2⟩,j+1,hj=>by
  have:=ya h2 (j:=j) (by simpa using hj);rw[show i+1+j=i+(j+1) by omega]at this;exact this
theorem r5 (ρ:Nat→Nat):∀(l:List Chunk) (i:Nat),(kf ρ i l).map (·.1)=(X5 l.length).map fun j=>ρ (i+j)
 |[],i=>rfl
 |c::l,i=>by
  rw[kf,Xm,r5 ρ l (i+1),XA,List.range_succ_eq_map,Xm,List.map_map];congr 1;refine Zr fun j _=>?_;simp only[Function.comp];rw[show i+1+j=i+(j+1) by omega]
theorem zD {ρ:Nat→Nat}(SF:∀i j,ρ i=ρ j→i=j){h:Nat→Chunk}:∀(l:List Chunk) (i j:Nat),j < l.length→cE (kf ρ i l) h (ρ (i+j))=lj ρ (aG l j)
 |c::l,i,0,_=>by simp[kf,cE,aG]
 |c::l,i,j+1,hj=>by
  simp only[kf,cE];rw[if_neg (fun e=>by have:=SF _ _ e;omega)];have:=zD SF (h:=h) l (i+1) j (by simpa using hj);rw[show i+1+j=i+(j+1) by omega]at this;exact this
theorem Bb {ρ:Nat→Nat}{h:Nat→Chunk}{k:Nat}:∀(l:List Chunk) (i:Nat),(∀j,j < l.length→ρ (i+j)≠k)→cE (kf ρ i l) h k=h k
 |[],_,_=>rfl
 |c::l,i,hk=>by
  simp only[kf,cE];rw[if_neg (fun e=>hk 0 (by simp) (by simpa using e.symm))];exact Bb l (i+1) fun j hj e=>hk (j+1) (by simpa using hj) (by rw[←e];congr 1;omega)
theorem PT {c c1:Cx}{w:World}{ρ:Nat→Nat}{m j:Nat}{ch:Chunk}(hM:∀d x,RepD c.M w d x→RepD c1.M w d x)(Ur:∀b,c1.M b→c.M b)(hb:∀j,j < m→∀b,c.bl (ρ j)=some b→c1.bl j=some b)(ho:∀j,j < m→∀g u,c.ov (ρ j) g=some u→c1.ov j g=some u)
 (OO:c1.bl j=c.bl (ρ j)) (OP:c1.ov j=c.ov (ρ j)) (Aw:aQ m ch=true) (h:ChunkOK c w (ρ j) (lj ρ ch)):ChunkOK c1 w j ch:=by
 cases ch with
 |none=>cases h with|none h1 h2=>exact .none (OO.trans h1) (fun g=>by rw[OP];exact h2 g)
 |gone=>exact .gone
 |mp nB sB ents=>cases h with|mp _ _ _ b hb hh hn=>exact .mp nB sB ents b (OO.trans hb) hh hn
 |it nB sB ents seen=>cases h with|it _ _ _ _ b bm hb hh hM hm=>exact .it nB sB ents seen b bm (OO.trans hb) hh (fun h=>hM (Ur _ h)) hm
 |box T cells=>
  cases h with
  |box _ _ b vs h1 h2 h3 h4=>
   refine .box T cells b vs (OO.trans h1) h2 ⟨by rw[←h3.1,cU,XC],pJ hM hb ho cells vs (by simpa[aQ]using Aw) h3.2⟩ (fun d hd=>?_);rw[←oO ρ];exact h4 _ (by rw[cU];exact Y8 hd)
 |row E sz g rows=>
  cases h with
  |row _ _ _ _ v xs h1 h2 h3 h4 h5 h6=>
   rw[Ba]at h2;rw[qA]at h3;refine .row E sz g rows v xs (by rw[OP];exact h1) h2 ⟨by rw[←h3.1,XC],pJ (ρ:=ρ) hM hb ho rows.flatten xs (tj (by simpa[aQ]using Aw)) (fun j d x hj hx=>h3.2 j d x (by rw[←cU];exact hj) hx)⟩ (fun r hr=>?_) (fun r hr d hd=>?_) (fun g' hg=>by rw[OP];exact h6 g' hg)
   ·have:=h4 (r.map (ren ρ)) (by rw[eH];exact Y8 (f:=(List.map (ren ρ))) hr);simpa using this
   ·have:=h5 (r.map (ren ρ)) (by rw[eH];exact Y8 (f:=(List.map (ren ρ))) hr) (ren ρ d) (Y8 hd);rwa [oO]at this
theorem M8 {c c2:Cx}{w:World}{ρ:Nat→Nat}{j:Nat}{ch:Chunk}(hM:∀d x,RepD c.M w d x→RepD c2.M w d x)(Ur:∀b,c2.M b→c.M b)(hb:∀k b,c.bl k=some b→c2.bl (ρ k)=some b)(ho:∀k g u,c.ov k g=some u→c2.ov (ρ k) g=some u)
 (OO:c2.bl (ρ j)=c.bl j) (OP:c2.ov (ρ j)=c.ov j) (h:ChunkOK c w j ch):ChunkOK c2 w (ρ j) (lj ρ ch):=by
 cases h with
 |none h1 h2=>exact .none (OO.trans h1) (fun g=>by rw[OP];exact h2 g)
 |gone=>exact .gone
 |mp nB sB ents b hb hh hn=>exact .mp nB sB ents b (OO.trans hb) hh hn
 |it nB sB ents seen b bm hb hh hM hm=>exact .it nB sB ents seen b bm (OO.trans hb) hh (fun h=>hM (Ur _ h)) hm
 |box T cells b vs h1 h2 h3 h4=>
  refine .box T _ b vs (OO.trans h1) h2 (by rw[cU];exact h3.ren hM hb ho) (fun d hd=>?_);rw[cU]at hd;obtain⟨y,hy,rfl⟩:=XQ.1 hd;rw[oO];exact h4 y hy
 |row E sz g rows v xs h1 h2 h3 h4 h5 h6=>
  refine .row E sz g _ v xs (by rw[OP];exact h1) (by rw[Ba];exact h2) (by rw[qA];exact h3.ren hM hb ho) (fun r hr=>?_) (fun r hr d hd=>?_) (fun g' hg=>by rw[OP];exact h6 g' hg)
  ·rw[eH]at hr;obtain⟨y,hy,rfl⟩:=XQ.1 hr;rw[XC];exact h4 y hy
  ·rw[eH]at hr;obtain⟨y,hy,rfl⟩:=XQ.1 hr;obtain⟨z,hz,rfl⟩:=XQ.1 hd;rw[oO];exact h5 y hy z hz
theorem yb {c c1:Cx}{ρ:Nat→Nat}{j:Nat}{ch:Chunk}(hb:c1.bl j=c.bl (ρ j))(ho:c1.ov j=c.ov (ρ j)):c1.block j ch=c.block (ρ j) (lj ρ ch):=by
 cases ch<;>simp[Cx.block,lj,hb,ho]
theorem mb:∀(l:List Chunk) (k:Nat),l.length≤k→aG l k= .none
 |[],_,_=>rfl
 |c::l,0,h=>by simp at h
 |c::l,k+1,h=>by simpa[aG]using mb l k (by simpa using h)
theorem RealC.back {X:Cfg}{s:FS}{a:Act}{w w':World}{c c2:Cx}(hc:RealC X s a w c){h0 h1:List Chunk}{ls:List Nat}{nk:Nat}{X1:Cfg}(Us:X1.w0=w∧X1.m=h0.length∧
 (∀b,X1.L b↔∃j,j < h0.length∧c.block (eC ls nk j) (s.heap (eC ls nk j))=some b)∧(∀b,X1.M0 b↔c.M b∧¬X1.L b)∧(∀j,j < h0.length→X1.c0.bl j=c.bl (eC ls nk j)∧X1.c0.ov j=c.ov (eC ls nk j)))
 (VQ:h0.length≤h1.length) (hl:ls.length=h0.length) (lf:ls.Nodup) (hlt:∀k∈ls,k < nk) (jy:∀i,h0.length+i < h1.length→s.heap (nk+i)= .none) (IK:X.m≤nk)
 (h:RealC X1 (bQ [] h1) Js w' c2) {p:PV}{v:Value} (hp:RepP c2 w' p v):
 ∃c3,RealC X {s with heap:=cE (kf (eC ls nk) 0 h1) s.heap} a w' c3∧RepP c3 w' (ren (eC ls nk) p) v:=by
 obtain⟨QP,ud,hL,VR,IL⟩:=Us;generalize hρ:eC ls nk=ρ at*;have inj:∀i j,ρ i=ρ j→i=j:=fun i j e=>by rw[←hρ]at e;exact zC lf hlt e
 have new_id:∀i,ρ (h0.length+i)=nk+i:=fun i=>by rw[←hρ,←hl];exact ke ls nk i
 have old_id:∀j,j < h0.length→ρ j < nk:=fun j hj=>by rw[←hρ];exact hlt _ (Xl (mN (by omega)))
 have new_none:∀j,h0.length≤j→j < h1.length→s.heap (ρ j)= .none:=fun j h2 h3=>by
  have:=new_id (j - h0.length);rw[show h0.length+(j - h0.length)=j by omega]at this;rw[this];exact jy _ (by omega)
 have iX:=h.lent;rw[ud]at iX;let c3:Cx:={M:=c2.M,bl:=fun k=>open Classical in if e:∃j,j < h1.length∧ρ j=k then c2.bl e.choose else c.bl k,ov:=fun k=>open Classical in if e:∃j,j < h1.length∧ρ j=k then c2.ov e.choose else c.ov k}
 have in_bl:∀j,j < h1.length→c3.bl (ρ j)=c2.bl j∧c3.ov (ρ j)=c2.ov j:=by
  intro j hj;have e:∃i,i < h1.length∧ρ i=ρ j:=⟨j,hj,rfl⟩;have e2:=inj _ _ e.choose_spec.2;refine⟨?_,?_⟩
  ·show (if e:∃i,i < h1.length∧ρ i=ρ j then c2.bl e.choose else c.bl (ρ j))=_;rw[dif_pos e,e2]
  ·show (if e:∃i,i < h1.length∧ρ i=ρ j then c2.ov e.choose else c.ov (ρ j))=_;rw[dif_pos e,e2]
 have off_bl:∀k,(∀j,j < h1.length→ρ j≠k)→c3.bl k=c.bl k∧c3.ov k=c.ov k:=by
  intro k hk;have e:¬∃j,j < h1.length∧ρ j=k:=fun⟨j,h1,h2⟩=>hk j h1 h2;refine⟨?_,?_⟩
  ·show (if e:∃i,i < h1.length∧ρ i=k then c2.bl e.choose else c.bl k)=_;rw[dif_neg e]
  ·show (if e:∃i,i < h1.length∧ρ i=k then c2.ov e.choose else c.ov k)=_;rw[dif_neg e]
 have far:∀j,h1.length≤j→c2.bl j=none∧∀g,c2.ov j g=none:=by
  intro j hj;have:=h.chunk j;rw[show (bQ [] h1).heap j= .none from mb h1 j hj]at this;cases this with|none a b=>exact⟨a,b⟩
 have fwd_b:∀k b,c2.bl k=some b→c3.bl (ρ k)=some b:=by
  intro k b hb;rcases XP k h1.length with hk|hk
  ·rw[(in_bl k hk).1];exact hb
  ·rw[(far k hk).1]at hb;cases hb
 have fwd_o:∀k g u,c2.ov k g=some u→c3.ov (ρ k) g=some u:=by
  intro k g u hu;rcases XP k h1.length with hk|hk
  ·rw[(in_bl k hk).2];exact hu
  ·rw[(far k hk).2]at hu;cases hu
 have lent_bl:∀j,j < h0.length→c2.bl j=c.bl (ρ j)∧∀g u,c.ov (ρ j) g=some u→c2.ov j g=some u:=by
  intro j hj;obtain⟨q1,q2⟩:=iX j hj;obtain⟨q3,q4⟩:=IL j hj;exact⟨q1.trans q3,fun g u hu=>q2 g u (by rw[q4];exact hu)⟩
 have hle:c.le c3:=by
  refine⟨fun k b hb=>?_,fun k g u hu=>?_⟩
  ·by_cases e:∃j,j < h1.length∧ρ j=k
   ·obtain⟨j,hj,rfl⟩:=e;rw[(in_bl j hj).1];rcases XP j h0.length with h2|h2
    ·rw[(lent_bl j h2).1];exact hb
    ·have:=hc.chunk (ρ j);rw[new_none j h2 hj]at this;cases this with|none a b2=>rw[a]at hb;cases hb
   ·rw[(off_bl k fun j hj e2=>e ⟨j,hj,e2⟩).1];exact hb
  ·by_cases e:∃j,j < h1.length∧ρ j=k
   ·obtain⟨j,hj,rfl⟩:=e;rw[(in_bl j hj).2];rcases XP j h0.length with h2|h2
    ·exact(lent_bl j h2).2 g u hu
    ·have:=hc.chunk (ρ j);rw[new_none j h2 hj]at this;cases this with|none a b2=>rw[b2]at hu;cases hu
   ·rw[(off_bl k fun j hj e2=>e ⟨j,hj,e2⟩).2];exact hu
 have blk_in:∀j,j < h1.length→c3.block (ρ j) (cE (kf ρ 0 h1) s.heap (ρ j))=c2.block j (aG h1 j):=by
  intro j hj;have e:=zD inj (h:=s.heap) h1 0 j hj;rw[XG]at e;rw[e];exact(yb (in_bl j hj).1.symm (in_bl j hj).2.symm).symm
 have blk_off:∀k,(∀j,j < h1.length→ρ j≠k)→cE (kf ρ 0 h1) s.heap k=s.heap k∧c3.block k (s.heap k)=c.block k (s.heap k):=by
  intro k hk;refine⟨Bb h1 0 fun j hj=>by rw[XG];exact hk j hj,?_⟩;obtain⟨q1,q2⟩:=off_bl k hk;cases s.heap k<;>simp[Cx.block,q1,q2]
 have blk_far:∀j b,c2.block j (aG h1 j)=some b→j < h1.length:=by
  intro j b hb;rcases XP j h1.length with hj|hj
  ·exact hj
  ·rw[mb h1 j hj]at hb;cases hb
 have xH:=h.ext;rw[QP]at xH;have L_M:∀b,X1.L b→c.M b:=fun b hb=>by
  obtain⟨j,hj,e⟩:=(hL b).1 hb;exact(hc.mu b).2 (.inr ⟨_,e⟩)
 have L_new:∀b,X1.L b→X.L b∨X.w0.heap.size≤b:=fun b hb=>by
  obtain⟨j,hj,e⟩:=(hL b).1 hb;exact(hc.new _ b e).1
 have SG:=h.mu;have lK:Keep c.M w c3.M w':=by
  refine⟨xH.size,fun b hb hm=>xH.block b hb (fun e=>hm (L_M b e)),fun b hb hm=>?_⟩;rcases(SG b).1 hm with h2|⟨k,h2⟩
  ·exact((VR b).1 h2).1
  ·rcases(h.new k b h2).1 with h3|h3
   ·exact L_M b h3
   ·rw[QP]at h3;omega
 have off_L:∀k b,(∀j,j < h1.length→ρ j≠k)→c.block k (s.heap k)=some b→¬X1.L b:=by
  intro k b hk hb hb';obtain⟨j,hj,e⟩:=(hL b).1 hb';exact hk j (by omega) (hc.apart _ _ b e hb)
 refine⟨c3,⟨hc.size,hc.defers,?_,hc.inv,hc.fresh,fun b=>?_,fun k b hb=>?_,fun k k' b hb hb'=>?_,fun t=>(hc.env t).keep hle lK,fun k=>?_,fun k hk=>?_⟩,hp.ren (c2:=c3) (fun _ _ h=>h) fwd_b fwd_o⟩
 ·refine⟨xH.os.trans hc.ext.os,xH.tape.trans hc.ext.tape,xH.output.trans hc.ext.output,Yy hc.ext.size xH.size,fun b hb ML=>?_⟩;refine(xH.block b (Yx hb hc.ext.size) fun e=>?_).trans (hc.ext.block b hb ML);rcases L_new b e with h2|h2
  ·exact ML h2
  ·omega
 ·show c2.M b↔_;rw[SG b,VR b,hc.mu b];constructor
  ·rintro (⟨h2|⟨k,h2⟩,h3⟩|⟨j,h2⟩)
   ·exact .inl h2
   ·refine .inr ⟨k,?_⟩;have hk:∀j,j < h1.length→ρ j≠k:=fun j hj e=>by
     subst e;rcases XP j h0.length with h4|h4
     ·exact h3 ((hL b).2 ⟨j,h4,h2⟩)
     ·rw[new_none j h4 hj]at h2;cases h2
    simp only[(blk_off k hk).1,(blk_off k hk).2];exact h2
   ·refine .inr ⟨ρ j,?_⟩;simp only[blk_in j (blk_far j b h2)];exact h2
  ·rintro (h2|⟨k,h2⟩)
   ·refine .inl ⟨.inl h2,fun e=>?_⟩;obtain⟨h3,h4⟩:=hc.fresh b h2;rcases L_new b e with h5|h5
    ·exact h4 h5
    ·omega
   ·simp only at h2;by_cases e:∃j,j < h1.length∧ρ j=k
    ·obtain⟨j,hj,rfl⟩:=e;rw[blk_in j hj]at h2;exact .inr ⟨j,h2⟩
    ·have hk:∀j,j < h1.length→ρ j≠k:=fun j hj e2=>e ⟨j,hj,e2⟩;rw[(blk_off k hk).1,(blk_off k hk).2]at h2;exact .inl ⟨.inr ⟨k,h2⟩,off_L k b hk h2⟩
 ·simp only at hb;by_cases e:∃j,j < h1.length∧ρ j=k
  ·obtain⟨j,hj,rfl⟩:=e;rw[blk_in j hj]at hb;obtain⟨h2,h3⟩:=h.new j b hb;refine⟨?_,h3⟩;rcases h2 with h2|h2
   ·exact L_new b h2
   ·rw[QP]at h2;exact .inr (Yy hc.ext.size h2)
  ·have hk:∀j,j < h1.length→ρ j≠k:=fun j hj e2=>e ⟨j,hj,e2⟩;rw[(blk_off k hk).1,(blk_off k hk).2]at hb;exact⟨(hc.new k b hb).1,Yx (hc.new k b hb).2 xH.size⟩
 ·simp only at hb hb';have ak:∀j k,j < h1.length→(∀j,j < h1.length→ρ j≠k)→c2.block j (aG h1 j)=some b→c.block k (s.heap k)=some b→False:=by
   intro j k hj hk h2 h3;rcases(h.new j b h2).1 with h4|h4
   ·exact off_L k b hk h3 h4
   ·have:=(hc.new k b h3).2;rw[QP]at h4;omega
  by_cases e:∃j,j < h1.length∧ρ j=k
  ·obtain⟨j,hj,rfl⟩:=e;rw[blk_in j hj]at hb;by_cases e':∃j,j < h1.length∧ρ j=k'
   ·obtain⟨j',hj',rfl⟩:=e';rw[blk_in j' hj']at hb';rw[h.apart j j' b hb hb']
   ·have hk:∀j,j < h1.length→ρ j≠k':=fun j hj e2=>e' ⟨j,hj,e2⟩;rw[(blk_off k' hk).1,(blk_off k' hk).2]at hb';exact(ak j k' hj hk hb hb').elim
  ·have hk:∀j,j < h1.length→ρ j≠k:=fun j hj e2=>e ⟨j,hj,e2⟩;rw[(blk_off k hk).1,(blk_off k hk).2]at hb;by_cases e':∃j,j < h1.length∧ρ j=k'
   ·obtain⟨j',hj',rfl⟩:=e';rw[blk_in j' hj']at hb';exact(ak j' k hj' hk hb' hb).elim
   ·have hk':∀j,j < h1.length→ρ j≠k':=fun j hj e2=>e' ⟨j,hj,e2⟩;rw[(blk_off k' hk').1,(blk_off k' hk').2]at hb';exact hc.apart k k' b hb hb'
 ·simp only;by_cases e:∃j,j < h1.length∧ρ j=k
  ·obtain⟨j,hj,rfl⟩:=e;have e2:=zD inj (h:=s.heap) h1 0 j hj;rw[XG]at e2;rw[e2];exact M8 (c:=c2) (c2:=c3) (fun _ _ h=>h) (fun _ h=>h) fwd_b fwd_o (in_bl j hj).1 (in_bl j hj).2 (h.chunk j)
  ·have hk:∀j,j < h1.length→ρ j≠k:=fun j hj e2=>e ⟨j,hj,e2⟩;rw[(blk_off k hk).1];exact(hc.chunk k).keep hle lK (fun b hb=>xH.block b (hc.new k b hb).2 (off_L k b hk hb)) (off_bl k hk).1 (off_bl k hk).2
 ·obtain⟨q1,q2⟩:=hc.lent k hk;by_cases e:∃j,j < h1.length∧ρ j=k
  ·obtain⟨j,hj,rfl⟩:=e;have QQ:j < h0.length:=by
    rcases XP j h0.length with h2|h2
    ·exact h2
    ·have:=new_id (j - h0.length);rw[show h0.length+(j - h0.length)=j by omega]at this;omega
   rw[(in_bl j hj).1,(in_bl j hj).2];exact⟨(lent_bl j QQ).1.trans q1,fun g u hu=>(lent_bl j QQ).2 g u (q2 g u hu)⟩
  ·have hk':∀j,j < h1.length→ρ j≠k:=fun j hj e2=>e ⟨j,hj,e2⟩;rw[(off_bl k hk').1,(off_bl k hk').2];exact⟨q1,q2⟩
theorem RealC.lend {X:Cfg}{s:FS}{a:Act}{w:World}{c:Cx}(hc:RealC X s a w c){h0:List Chunk}{ls:List Nat}{nk:Nat}(hl:ls.length=h0.length)(lf:ls.Nodup)(hlt:∀k∈ls,k < nk)(Aw:aH h0.length h0=true)(iX:ax s.heap (eC ls nk) 0 h0):
 ∃X1 c1,(X1.P=X.P∧X1.n=0∧X1.m=h0.length)∧(X1.w0=w∧X1.m=h0.length∧
  (∀b,X1.L b↔∃j,j < h0.length∧c.block (eC ls nk j) (s.heap (eC ls nk j))=some b)∧(∀b,X1.M0 b↔c.M b∧¬X1.L b)∧(∀j,j < h0.length→X1.c0.bl j=c.bl (eC ls nk j)∧X1.c0.ov j=c.ov (eC ls nk j)))∧
  RealC X1 (bQ [] h0) Js w c1∧(∀(ps:List PV) (vs:List Value),an h0.length ps=true→bG c w (iJ (eC ls nk) ps) vs→bG c1 w ps vs):=by
 generalize hρ:eC ls nk=ρ at*;have inj:∀i j,ρ i=ρ j→i=j:=fun i j e=>by rw[←hρ]at e;exact zC lf hlt e
 let c1:Cx:={M:=c.M,bl:=fun j=>if j < h0.length then c.bl (ρ j)else none,ov:=fun j g=>if j < h0.length then c.ov (ρ j) g else none}
 have b1:∀j,j < h0.length→c1.bl j=c.bl (ρ j)∧c1.ov j=c.ov (ρ j):=fun j hj=>⟨if_pos hj,funext fun g=>if_pos hj⟩;have lent:∀j,j < h0.length→s.heap (ρ j)=lj ρ (aG h0 j):=fun j hj=>by
  have:=ya iX (j:=j) hj;rwa [XG]at this
 have ph:∀j,j < h0.length→c1.block j (aG h0 j)=c.block (ρ j) (s.heap (ρ j)):=fun j hj=>by
  rw[lent j hj];exact yb (b1 j hj).1 (b1 j hj).2
 have far:∀j b,c1.block j (aG h0 j)=some b→j < h0.length:=fun j b hb=>by
  rcases XP j h0.length with hj|hj
  ·exact hj
  ·rw[mb h0 j hj]at hb;cases hb
 have hb:∀j,j < h0.length→∀b,c.bl (ρ j)=some b→c1.bl j=some b:=fun j hj b h=>by rw[(b1 j hj).1];exact h
 have ho:∀j,j < h0.length→∀g u,c.ov (ρ j) g=some u→c1.ov j g=some u:=fun j hj g u h=>by rw[(b1 j hj).2];exact h
 have below_at:∀(l:List Chunk) (j:Nat),aH h0.length l=true→aQ h0.length (aG l j)=true:=fun l j h=>rZ h j;refine⟨{P:=X.P,n:=0,m:=h0.length,w0:=w,M0:=fun b=>c.M b∧¬∃j,j < h0.length∧c.block (ρ j) (s.heap (ρ j))=some b,L:=fun b=>∃j,j < h0.length∧c.block (ρ j) (s.heap (ρ j))=some b,c0:=c1},c1,⟨rfl,rfl,rfl⟩,
  ⟨rfl,rfl,fun b=>Iff.rfl,fun b=>Iff.rfl,fun j hj=>b1 j hj⟩,⟨rfl,rfl,ExtL.refl _ _,hc.ginv.keep ⟨XB _,fun _ _ _=>rfl,fun b _ h=>h.elim And.left fun⟨j,_,hj⟩=>(hc.mu b).2 (.inr ⟨_,hj⟩)⟩,fun b hb=>⟨hc.lt hb.1,hb.2⟩,fun b=>?_,fun k b hk=>?_,fun k k' b hk hk'=>?_,fun t=> .any _,fun k=>?_,fun k _=>⟨rfl,fun _ _ h=>h⟩⟩,fun ps vs lq hr=>?_⟩
 ·show c.M b↔_;by_cases e:∃j,j < h0.length∧c.block (ρ j) (s.heap (ρ j))=some b
  ·constructor
   ·intro _;obtain⟨j,hj,h2⟩:=e;exact .inr ⟨j,by rw[show (bQ [] h0).heap j=aG h0 j from rfl,ph j hj];exact h2⟩
   ·intro _;obtain⟨j,hj,h2⟩:=e;exact(hc.mu b).2 (.inr ⟨_,h2⟩)
  ·constructor
   ·intro hm;exact .inl ⟨hm,e⟩
   ·rintro (h2|⟨j,h2⟩)
    ·exact h2.1
    ·have hj:=far j b h2;exact absurd ⟨j,hj,by rw[←ph j hj];exact h2⟩ e
 ·have hj:=far k b hk;have h2:c.block (ρ k) (s.heap (ρ k))=some b:=by rw[←ph k hj];exact hk
  exact⟨.inl ⟨k,hj,h2⟩,(hc.new _ b h2).2⟩
 ·have hj:=far k b hk;have hj':=far k' b hk';have h2:c.block (ρ k) (s.heap (ρ k))=some b:=by rw[←ph k hj];exact hk
  have h3:c.block (ρ k') (s.heap (ρ k'))=some b:=by rw[←ph k' hj'];exact hk'
  exact inj _ _ (hc.apart _ _ b h2 h3)
 ·rcases XP k h0.length with hk|hk
  ·have bc:=hc.chunk (ρ k);rw[lent k hk]at bc;exact PT (c:=c) (c1:=c1) (ρ:=ρ) (fun _ _ h=>h) (fun _ h=>h) hb ho (b1 k hk).1 (b1 k hk).2 (below_at h0 k Aw) bc
  ·rw[show (bQ [] h0).heap k= .none from mb h0 k hk];exact .none (if_neg (by omega)) fun g=>if_neg (by omega)
 ·exact⟨by rw[←hr.1,cU,XC],pJ (c:=c) (c1:=c1) (ρ:=ρ) (fun _ _ h=>h) hb ho ps vs lq hr.2⟩
theorem tm {h h':Nat→Chunk}{ρ:Nat→Nat}:∀{l:List Chunk}{i:Nat},ax h ρ i l→(∀j,j < l.length→h' (ρ (i+j))=h (ρ (i+j)))→ax h' ρ i l
 |[],_,_,_=>trivial
 |c::l,i,⟨h1,h2⟩,hs=>⟨(hs 0 (by simp)).trans h1,tm h2 fun j hj=>by
  have:=hs (j+1) (by simpa using hj);rw[show i+1+j=i+(j+1) by omega];exact this⟩
theorem Bc {X:Cfg}{ops:Array Oper}{s:FS}{o:Oper}(hd:∀d,o.dst=some d→d < X.n){fo:Operand}{args:Array Operand}{tys:Array Nat}{g:Nat}{caps margs:List PV}{h0 h1:List Chunk}{r:PV}{ls:List Nat}{nk:Nat}(ho:o.op= .call {callee:= .value fo,args:=args,argTypes:=tys})
 (hf:ev s fo= .clo g caps∨∃cd:List D,ev s fo= .d (.clo g cd)∧caps=cd.map .d) (hM:MSpec X.P g margs h0 r h1) (ha:args.toList.map (ev s)++caps=iJ (eC ls nk) margs)
 (hl:ls.length=h0.length) (lf:ls.Nodup) (hlt:∀k∈ls,k < nk) (iX:ax s.heap (eC ls nk) 0 h0) (jy:∀i,h0.length+i < h1.length→s.heap (nk+i)= .none) (IK:X.m≤nk):
 bI X ops s o {pv:=ren (eC ls nk) r,eff:=kf (eC ls nk) 0 h1,touch:=(X5 h1.length).map (eC ls nk)}:=by
 refine⟨hd,fun kc h=>?_,fun s' he hU a w hr K Q hK=>?_⟩
 ·have h2:=Y8 (f:=(·.1)) h;rw[r5]at h2;simpa using h2
 obtain⟨c,hc⟩:=hr;have dB:∀j,j < h1.length→s'.heap (eC ls nk j)=s.heap (eC ls nk j):=fun j hj=>hU _ (Y8 (YR.2 hj));have QR:=tm (h':=s'.heap) iX fun j hj=>by
  rw[XG];exact dB j (Yx hj hM.le)
 have SH:∀i,h0.length+i < h1.length→s'.heap (nk+i)= .none:=fun i hi=>by
  have:=ke ls nk i;rw[hl]at this;rw[←this,dB _ hi,this];exact jy i hi
 have sQ:∀x,(x=fo∨x∈args)→ev s' x=ev s x:=fun x hx=>zo he x (by
  rw[ho];simp only[Op.operands,Call.operands];rcases hx with rfl|hx
  ·simp
  ·simp[hx])
 obtain⟨fvs,ON,uc,Fc⟩:∃fvs:List Value,a.eval fo= .func (.func g) #[] fvs.toArray∧caps.length=fvs.length∧∀(j:Nat) (p:PV) (x:Value),caps[j]? =some p→fvs[j]? =some x→RepP c w p x:=by
  have h0:=bM hc fo;rw[sQ fo (.inl rfl)]at h0;rcases hf with hf|⟨cd,hf,rfl⟩
  ·rw[hf]at h0;generalize a.eval fo=u at h0;cases h0 with
   |clo _ _ vs hl bA=>exact⟨vs,rfl,hl,bA⟩
  ·rw[hf]at h0;generalize a.eval fo=u at h0;have h0:=co h0;cases h0 with
   |clo _ _ vs hl bA=>
    refine⟨vs,rfl,by simpa using hl,fun j p x hj hx=>?_⟩;simp only[Xz,XO]at hj;obtain⟨y,hy,rfl⟩:=hj;exact .d _ _ (bA j y x hy hx)
 have zd:bG c w (iJ (eC ls nk) margs) (args.toList.map a.eval++fvs):=by
  rw[←ha];refine⟨by simp[uc],fun j p x hp hx=>?_⟩;by_cases hlt:j < args.toList.length
  ·rw[X4 (by simpa using hlt)]at hp hx;simp only[Xz,XO]at hp hx;obtain⟨y,hy,rfl⟩:=hp;obtain⟨y',hy',rfl⟩:=hx;rw[hy]at hy';cases hy';have:=bM hc y;rwa [sQ y (.inr (by simpa using Xl hy))]at this
  ·rw[XK (by simpa using hlt)]at hp hx;simp only[XC]at hp hx;exact Fc _ p x hp hx
 obtain⟨X1,c1,⟨e1,e2,e3⟩,Us,rR,lq⟩:=hc.lend hl lf hlt hM.bh QR;have iW:=hM.run X1 e1 e2 e3 w c1 (args.toList.map a.eval++fvs) rR (lq _ _ hM.ba zd);have cr:(execOp a.eval o).run X.P w= .ok (.enter g (args.toList.map a.eval++fvs).toArray) w:=by
  have e:(args.toList.map a.eval++fvs).toArray=args.map a.eval++fvs.toArray:=by
   apply _h;simp
  rw[e];simp[execOp,ho,resolve,ON,Deferred.ofValue,invoke];exact hM.fn _ _
 unfold Oper.wp;rw[cr,Oper.upon_enter];refine iW.mono ?_;rintro e w' ⟨v,c2,rfl,hv,j5⟩;obtain⟨c3,g1,g2⟩:=hc.back Us hM.le hl lf hlt SH IK j5 hv;exact hK v w' ⟨c3,g1.put g2 hd⟩
theorem yc:∀{eff:List (Nat × Chunk)}{h:Nat→Chunk},(∀kc∈eff,h kc.1=kc.2)→cE eff h=h
 |[],_,_=>rfl
 |(k,c)::l,h,hs=>by
  funext k';simp only[cE];split
  ·rename_i e;subst e;exact(hs (k',c) (F' ..)).symm
  ·rw[yc fun kc hk=>hs kc (by simp[hk])]
theorem M9 {X:Cfg}{ops:Array Oper}{s:FS}{o:Oper}{r:Res}(h:bI X ops s o r)(he:∀kc∈r.eff,s.heap kc.1=kc.2):bI X ops s o {r with eff:=[]}:=by
 refine⟨h.1,by simp,fun s' h1 h2 a w hr K Q hK=>h.2.2 s' h1 h2 a w hr K Q fun v w' hr'=>hK v w' ?_⟩;have:cE r.eff s'.heap=s'.heap:=yc fun kc hk=>by rw[h2 _ (h.2.1 kc hk)];exact he kc hk
 have e2:s'.app o.dst r=s'.app o.dst {r with eff:=[]}:=by
  unfold FS.app;rw[this];rfl
 rw[←e2];exact hr'
theorem yd {h:Nat→Chunk}{ρ:Nat→Nat}:∀{l:List Chunk}{i:Nat},ax h ρ i l→∀kc∈kf ρ i l,h kc.1=kc.2
 |[],_,_,kc,hk=>by simp[kf]at hk
 |c::l,i,⟨h1,h2⟩,kc,hk=>by
  simp only[kf,X7]at hk;rcases hk with rfl|hk
  ·exact h1
  ·exact yd h2 kc hk
theorem Jt {X:Cfg}{ops:Array Oper}{s:FS}{o:Oper}(hd:∀d,o.dst=some d→d < X.n){fo:Operand}{args:Array Operand}{tys:Array Nat}{g:Nat}{caps margs:List PV}{h0:List Chunk}{r:PV}{ls:List Nat}{nk:Nat}(ho:o.op= .call {callee:= .value fo,args:=args,argTypes:=tys})
 (hf:ev s fo= .clo g caps∨∃cd:List D,ev s fo= .d (.clo g cd)∧caps=cd.map .d) (hM:MSpec X.P g margs h0 r h0) (ha:args.toList.map (ev s)++caps=iJ (eC ls nk) margs)
 (hl:ls.length=h0.length) (lf:ls.Nodup) (hlt:∀k∈ls,k < nk) (iX:ax s.heap (eC ls nk) 0 h0) (IK:X.m≤nk):
 bI X ops s o {pv:=ren (eC ls nk) r,eff:=[],touch:=(X5 h0.length).map (eC ls nk)}:=
 M9 (Bc hd ho hf hM ha hl lf hlt iX (fun i hi=>by omega) IK) (yd iX)
theorem nW (s:Bool):∀(l:List (List Int × Int)) (j i:Nat),(bu s l j)[i]? =(l[i]?).map fun kv=>{key:=i5 s kv.1,val:= .int .i64 kv.2,born:=j+i}
 |[],j,i=>by simp[bu]
 |(k,v)::l,j,0=>by simp[bu]
 |(k,v)::l,j,i+1=>by
  simp only[bu,Yw];rw[nW s l (j+1) i];simp only[show j+1+i=j+(i+1) by omega]
theorem kg (s:Bool):∀(l:List (List Int × Int)) (j:Nat),∀x∈bu s l j,j≤x.born∧x.born < j+l.length
 |[],j,x,hx=>by simp[bu]at hx
 |(k,v)::l,j,x,hx=>by
  simp only[bu,X7]at hx;rcases hx with rfl|hx
  ·simp
  ·have:=kg s l (j+1) x hx;simp only[XA];omega
theorem px (s:Bool):∀(l:List (List Int × Int)) (j:Nat),((bu s l j).map (·.born)).Nodup
 |[],j=>by simp[bu]
 |(k,v)::l,j=>by
  simp only[bu,Xm,List.nodup_cons,XQ,not_exists,not_and];exact⟨fun x hx e=>by have:=(kg s l (j+1) x hx).1;omega,px s l (j+1)⟩
theorem RealC.range {X:Cfg}{s:FS}{a:Act}{w:World}{c:Cx}(h:RealC X s a w c){k nk n b:Nat}{sB:Bool}{ents:List (List Int × Int)}(hk:s.heap k= .mp n sB ents)(SI:s.heap nk= .none)(IK:¬nk < X.m)(hb:c.bl k=some b)(hh:w.heap[b]? =some (.map (bu sB ents 0).toArray ents.length)):
 ∃c',RealC X {s with heap:=cE [(nk,.it n sB ents []),(k,.gone)] s.heap} a (w.alloc (.mapIter (some b) ents.length #[] ents.length)) c'∧RepP c' (w.alloc (.mapIter (some b) ents.length #[] ents.length)) (.ptr nk 0) (.pointer (some ⟨w.heap.size,0,none⟩)):=by
 have h1:=h.freeze [k];have bB:nk≠k:=fun e=>by rw[e,hk]at SI;cases SI
 have SJ:cE ([k].map fun k=>(k,Chunk.gone)) s.heap nk= .none:=by
  simp only[Xm,Xu,cE,if_neg bB];exact SI
 have bc:=h1.chunk nk;simp only at bc;rw[SJ]at bc;have hlt:b < w.heap.size:=(Yz.1 hh).1;cases bc with
 |none xG Sv=>
  have hx:=jg w (.mapIter (some b) ents.length #[] ents.length);have cn:(fun k'=>if k'=nk then some w.heap.size else c.bl k') nk=some w.heap.size:=if_pos rfl;refine⟨{M:=fun b=>lw c s.heap [k] b∨b=w.heap.size,bl:=fun k'=>if k'=nk then some w.heap.size else c.bl k',ov:=c.ov},?_,.ptr nk 0 _ cn⟩;refine h1.new_chunk (ch:= .it n sB ents []) SJ IK hx ⟨fun k' b hb=>?_,fun _ _ _ h=>h⟩ (fun k' bB=>if_neg bB) (fun _ _=>rfl) (fun b=>?_) (fun b hb=>?_) (fun lK=>?_)
  ·have:k'≠nk:=fun e=>by subst e;rw[xG]at hb;cases hb
   show (if k'=nk then some w.heap.size else c.bl k')=some b;rw[if_neg this];exact hb
  ·simp only[Cx.block,if_true,XX.injEq];exact⟨fun h=>h.imp id Eq.symm,fun h=>h.imp id Eq.symm⟩
  ·simp only[Cx.block,if_true,XX.injEq]at hb;rw[size_alloc];omega
  ·refine .it n sB ents [] w.heap.size b cn (jD w _) (fun hM=>?_) (by rw[hx.block b hlt];exact hh);rcases hM with hM|hM
   ·exact hM.2 k (by simp) (by rw[hk];exact hb)
   ·omega
section
variable {X:Cfg}{ops:Array Oper}{s:FS}{o:Oper}(hd:∀d,o.dst=some d→d < X.n)
include hd
theorem Ju {t k nk n:Nat}{sB:Bool}{m:Operand}{ents:List (List Int × Int)}(ho:o.op= .range t m)(hm:MapOK X.P t n sB)(SC:ev s m= .mref k)(hk:s.heap k= .mp n sB ents)(SI:s.heap nk= .none)(tQ:¬nk < X.m):
 bI X ops s o {pv:= .ptr nk 0,eff:=[(nk,.it n sB ents []),(k,.gone)],touch:=[k,nk]}:=
 d4 hd (fun kc h=>by simp at h;rcases h with rfl|rfl<;>simp) fun s' he hU a w c hc=>by
  have e1:=bM hc m;rw[he m (by simp[ho,Op.operands]),SC]at e1;have hk':s'.heap k= .mp n sB ents:=by rw[hU k (by simp)];exact hk
  have bc:=hc.chunk k;rw[hk']at bc;generalize hu:a.eval m=u at e1;cases e1 with
  |mref _ b hb=>
   cases bc with
   |mp _ _ _ b' hb' hh hn=>
    rw[hb]at hb';cases hb';obtain⟨c',h1,h2⟩:=hc.range hk' (by rw[hU nk (by simp)];exact SI) tQ hb hh;obtain⟨kt,et,i,WN,-⟩:=hm;refine⟨_,_,_,?_,.inl rfl,c',h1,h2⟩;simp only[execOp,ho,hu];rw[Sem.run_bind,run_range_map w t kt et b _ _ WN hh];rfl
theorem Jv {k n i:Nat}{sB:Bool}{x:Operand}{ents:List (List Int × Int)}{seen:List Nat}{kv:List Int × Int}(ho:o.op= .entry x)(hx:ev s x= .ptr k 0)(hk:s.heap k= .it n sB ents seen)(hl:seen.getLast? =some i)(hi:ents[i]? =some kv):
 bI X ops s o {pv:= .tup [.any,.d (.v (.int .i64 kv.2))],touch:=[k]}:=
 aM hd fun s' he hU a w c hc=>by
  have e1:=bM hc x;rw[he x (by simp[ho,Op.operands]),hx]at e1;have hk':s'.heap k= .it n sB ents seen:=by rw[hU k (by simp)];exact hk
  have bc:=hc.chunk k;rw[hk']at bc;generalize hu:a.eval x=u at e1;cases e1 with
  |ptr _ _ b hb=>
   cases bc with
   |it _ _ _ _ b' bm hb' hh hM hm=>
    rw[hb]at hb';cases hb';obtain⟨pre,rfl⟩:∃pre,seen=pre++[i]:=by
     rw[List.getLast?_eq_some_iff]at hl;exact hl
    have hg:=nW sB ents 0 i;rw[hi]at hg;have WO:w.heap[b]? =some (.mapIter (some bm) ents.length (pre.toArray.push i) ents.length):=by rw[hh];simp
    have cr:=run_entry_at (P:=X.P) w b bm ents.length pre.toArray (bu sB ents 0).toArray ents.length {key:=i5 sB kv.1,val:= .int .i64 kv.2,born:=i} WO hm (by
     have:=Xl hg;simpa using this) (by simpa using px sB ents 0)
    refine⟨.tuple #[i5 sB kv.1,.int .i64 kv.2],?_,.tup _ [i5 sB kv.1,.int .i64 kv.2] rfl ?_⟩
    ·simp only[execOp,ho,hu];rw[Sem.run_bind,cr];rfl
    ·intro j d y h1 h2;match j with
     |0=>simp at h1 h2;subst h1;exact .any _
     |1=>simp at h1 h2;subst h1;subst h2;exact .d _ _ (.v _)
     |j+2=>simp at h1
end
theorem Na {a b:ByteArray}:(a.toList==b.toList)=decide (a=b):=by
 rw[ByteArray.toList_eq,ByteArray.toList_eq,Yi,beq_iff_eq,decide_eq_true_iff];exact⟨fun h=>ByteArray.ext (_h h),fun h=>by rw[h]⟩
def zF (s:ByteArray)(i:Nat):Int:=((s.data.toList.getD i 0).toNat:Int)
theorem D5 {s:ByteArray}{i:Nat}(h:i < s.size):s[i]? =some (s.data.toList.getD i 0):=by
 have h2:i < s.data.size:=h;rw[getElem?_pos s i h];congr 1;rw[XJ,X6,YP h2];rfl
def nX:List (List D)→Option (List Int)
 |[]=>some []
 |[.v (.int .u8 n)]::l=>(nX l).map (n:: ·)
 |_=>none
theorem ye:∀{rows:List (List D)}{xs:List Int},nX rows=some xs→rows=xs.map fun n=>[.v (.int .u8 n)]
 |[],xs,h=>by simp[nX]at h;subst h;rfl
 |r::rows,xs,h=>by
  unfold nX at h;split at h
  ·rename_i e;cases e
  ·rename_i n l e;cases e;cases hb:nX rows with
   |none=>rw[hb]at h;cases h
   |some ys=>
    rw[hb]at h;cases h;rw[ye hb];rfl
  ·cases h
section
variable {X:Cfg}{ops:Array Oper}{s:FS}{o:Oper}(hd:∀d,o.dst=some d→d < X.n)
include hd
theorem GW {t t':Nat}{x y:Operand}{a b:ByteArray}(ho:o.op= .binOp .add t x y t')(hx:ev s x= .d (.v (.string a)))(hy:ev s y= .d (.v (.string b)))(hl:a.size+b.size≤9223372036854775807):
 bI X ops s o {pv:= .d (.v (.string (a++b)))}:=
 aM hd fun s' he _ ac w c hc=>by
  have h1:=cZ hc ((he x (by simp[ho,Op.operands])).trans hx);have h2:=cZ hc ((he y (by simp[ho,Op.operands])).trans hy);have hr:=run_string_add_sum (P:=X.P) w a b (by omega);refine⟨.string (a++b),?_,.d _ _ (.v _)⟩;simp[execOp,ho,h1,h2,eqGuard,binOp,hr]
theorem Bd {op:BinOp}{t t':Nat}{x y:Operand}{a b:ByteArray}{r:Bool}(ho:o.op= .binOp op t x y t')(hx:ev s x= .d (.v (.string a)))(hy:ev s y= .d (.v (.string b)))(hr:(op= .eql∧r=decide (a=b))∨(op= .neq∧r=!decide (a=b))):
 bI X ops s o {pv:= .d (.v (.bool r))}:=
 aM hd fun s' he _ ac w c hc=>by
  have h1:=cZ hc ((he x (by simp[ho,Op.operands])).trans hx);have h2:=cZ hc ((he y (by simp[ho,Op.operands])).trans hy);refine⟨.bool r,?_,.d _ _ (.v _)⟩;rcases hr with⟨rfl,rfl⟩|⟨rfl,rfl⟩<;>simp[execOp,ho,h1,h2,eqGuard,binOp,Op.stringOp,Na]
theorem GY {t:Nat}{x:Operand}{a:ByteArray}{ti:TI}(ho:o.op= .call {callee:= .builtin .len,args:=#[x],argTypes:=#[t]})(ht:aT X.P t=some ti)(hk:ti.kind=2)(hx:ev s x= .d (.v (.string a))):
 bI X ops s o {pv:= .d (.v (.int .i64 a.size))}:=
 aM hd fun s' he _ ac w c hc=>by
  have h1:=cZ hc ((he x (by simp[ho,Op.operands,Call.operands])).trans hx);obtain⟨i,d,z,tk⟩:=ig ht;have j4:d= .string:=by
   have:=tk.kind;rw[hk]at this;cases d<;>simp[pr]at this;rfl
  subst j4;refine⟨.int .i64 a.size,?_,.d _ _ (.v _)⟩;simp[execOp,ho,h1,resolve,invoke,builtin,Builtin.len_,run_underlying tk.und,goInt]
theorem Be {t:Nat}{x y:Operand}{a:ByteArray}{k:IntKind}{n:Int}{ti:TI}(ho:o.op= .index t x y)(ht:aT X.P t=some ti)(hk:ti.kind=2)(hx:ev s x= .d (.v (.string a)))(hy:ev s y= .d (.v (.int k n)))(hn:0≤n)(hlt:n.toNat < a.size):
 bI X ops s o {pv:= .d (.v (.int .u8 (zF a n.toNat)))}:=
 aM hd fun s' he _ ac w c hc=>by
  have h1:=cZ hc ((he x (by simp[ho,Op.operands])).trans hx);have h2:=cZ hc ((he y (by simp[ho,Op.operands])).trans hy);obtain⟨i,d,z,tk⟩:=ig ht;have j4:d= .string:=by
   have:=tk.kind;rw[hk]at this;cases d<;>simp[pr]at this;rfl
  subst j4;refine⟨.int .u8 (zF a n.toNat),?_,.d _ _ (.v _)⟩;simp[execOp,ho,h1,h2,Instr.index,asIntOf,run_underlying tk.und,hn,D5 hlt,zF]
theorem Bf {t:Nat}{x:Operand}{lo hi:Option Operand}{a:ByteArray}{ti:TI}{l h:Nat}(ho:o.op= .slice t x lo hi none)(ht:aT X.P t=some ti)(hk:ti.kind=2)
 (hx:ev s x= .d (.v (.string a))) (iZ:Fs (lo.map (ev s))=some l) (jX:Ft a.size (hi.map (ev s))=some h) (h1:l≤h) (h2:h≤a.size):bI X ops s o {pv:= .d (.v (.string (a.extract l h)))}:=
 aM hd fun s' he _ ac w c hc=>by
  have e1:=cZ hc ((he x (by simp[ho,Op.operands])).trans hx);rw[←uI (s:=s) (s':=s') (fun y hy=>he y (by simp[ho,Op.operands,hy]))]at iZ jX;have b1:=nS hc iZ;have b2:=nT hc jX;obtain⟨i,d,z,tk⟩:=ig ht;have j4:d= .string:=by
   have:=tk.kind;rw[hk]at this;cases d<;>simp[pr]at this;rfl
  subst j4;refine⟨.string (a.extract l h),?_,.d _ _ (.v _)⟩;have g1:(0:Int)≤(l:Int):=by omega
  have g2:(0:Int)≤(h:Int):=by omega
  have g3:(l:Int)≤(h:Int):=by omega
  have g4:(h:Int)≤(a.size:Int):=by omega
  simp only[execOp,ho,e1,Zg];generalize lo.map ac.eval=lo' at b1;generalize hi.map ac.eval=hi' at b2;rcases b1 with⟨rfl,rfl⟩|⟨k,rfl⟩<;>rcases b2 with⟨rfl,rfl⟩|⟨k',rfl⟩<;>
   simp[Instr.sliceAt,Instr.slice,run_underlying tk.und,Instr.sliceBounds,Instr.sliceBound,asIntOf,g1,g2,g3,g4,h1,h2,_g.2 h1,_g.2 h2]
theorem Bg {src dst e:Nat}{x:Operand}{rows:List (List D)}{xs:List Int}{ts td te:TI}(ho:o.op= .convert src dst x)(hs:aT X.P src=some ts)(ht:aT X.P dst=some td)(he':ts.elem=some e)(gL:aT X.P e=some te)(hi:te.int=some .u8)(hk:td.kind=2)
 (hx:ev s x= .d (.sl 1 rows)) (hb:nX rows=some xs):bI X ops s o {pv:= .d (.v (.string (strOfNums xs)))}:=
 aM hd fun s' he _ ac w c hc=>by
  have e1:=bM hc x;rw[he x (by simp[ho,Op.operands]),hx]at e1;generalize hu:ac.eval x=u at e1;have e1:=co e1;obtain⟨i,d,z,tk⟩:=ig hs;obtain⟨i2,d2,z2,tk2⟩:=ig ht;obtain⟨i3,d3,z3,tk3⟩:=ig gL;have Dn:d= .slice e:=by
   have:=tk.elem;rw[he']at this;cases d<;>simp[gm]at this;rw[this]
  have zf:d2= .string:=by
   have:=tk2.kind;rw[hk]at this;cases d2<;>simp[pr]at this;rfl
  have OQ:d3= .int .u8:=by
   have:=tk3.int;rw[hi]at this;cases d3<;>simp[M1]at this;rw[this]
  subst Dn zf OQ;have L7:=ye hb;refine⟨.string (strOfNums xs),?_,.d _ _ (.v _)⟩;cases e1 with
  |nil _ ao cap hm=>
   have:xs=[]:=by cases xs with|nil=>rfl|cons a l=>simp at L7
   subst this;simp only[execOp,ho,hu];rw[Sem.run_bind,run_convert_bytes_string w src dst e ao 0 cap tk.und tk3.und tk2.und];cases ao with
   |none=>rfl
   |some a=>
    have hl:(loadCells a 0).run X.P w= .ok (([]:List Int).map (Value.int .u8)).toArray w:=by simp[loadCells,loadCellsFrom]
    rw[run_bytesToString w a 0 cap [] hl];rfl
  |sl _ _ b off cap f hM tP fS hm hr h1' dy bA=>
   have bT:rows.length=xs.length:=by rw[L7,XC]
   have WP:∀i,i < rows.length→w.cell? ⟨b,off+i,none⟩=some (.int .u8 (xs.getD i 0)):=fun i hi=>by
    have h0:=dy i 0 hi (by omega);rw[X',XW]at h0;rw[h0];obtain⟨n,hn⟩:∃n,xs[i]? =some n:=⟨_,Xk (by omega)⟩;have h2:=bA i 0 [.v (.int .u8 n)] (.v (.int .u8 n)) (by rw[L7,Xz,hn];rfl) rfl;rw[XJ,hn,YI];generalize f i 0=fv at h2;cases h2;rfl
   have hr':=run_convert_bytes_arg (P:=X.P) w src e tk.und tk3.und b off rows.length cap xs bT.symm WP dst tk2.und;simp only[execOp,ho,hu];rw[Sem.run_bind,hr'];rfl
theorem D6 {t e n sz k off:Nat}{x y:Operand}{kd:IntKind}{i:Int}{ti te:TI}(ho:o.op= .indexAddr t x y)(ht:aT X.P t=some ti)(ha:ti.arr=some (n,e))(gL:aT X.P e=some te)(cP:te.size=sz)
 (hx:ev s x= .ptr k off) (hy:ev s y= .d (.v (.int kd i))) (hi:0≤i) (hlt:i.toNat < n):bI X ops s o {pv:= .ptr k (off+i.toNat*sz)}:=
 aM hd fun s' he _ ac w c hc=>by
  have e1:=bM hc x;rw[he x (by simp[ho,Op.operands]),hx]at e1;have e2:=cZ hc ((he y (by simp[ho,Op.operands])).trans hy);generalize hu:ac.eval x=u at e1;obtain⟨ii,d,z,tk⟩:=ig ht;obtain⟨ie,de,ze,tke⟩:=ig gL;have j4:d= .array n e:=by
   have:=tk.arr;rw[ha]at this;cases d<;>simp[Jf]at this;rw[this.1,this.2]
  subst j4;cases e1 with
  |ptr _ _ b hb=>
   have rE:0≤i∧i < (n:Int):=⟨hi,by omega⟩;refine⟨.pointer (some ⟨b,off+i.toNat*sz,none⟩),?_,.ptr k _ b hb⟩;simp[execOp,ho,hu,e2,Instr.indexAt,Instr.sureAddr,asIntOf,run_underlying tk.und,rE,sizeOf,typeInfo,tke.info,tke.size,cP,Addr.add_lit]
theorem Bh {t e n:Nat}{x y:Operand}{kd:IntKind}{i:Int}{ti te:TI}{ds:List D}{q:D}(ho:o.op= .index t x y)(ht:aT X.P t=some ti)(ha:ti.arr=some (n,e))(gL:aT X.P e=some te)(cP:te.size=1)(o8:te.agg=false)
 (hx:ev s x= .d (.agg ds)) (hy:ev s y= .d (.v (.int kd i))) (hi:0≤i) (hlt:i.toNat < n) (hq:ds[i.toNat]? =some q):bI X ops s o {pv:= .d q}:=
 aM hd fun s' he _ ac w c hc=>by
  have e1:=bM hc x;rw[he x (by simp[ho,Op.operands]),hx]at e1;have e2:=cZ hc ((he y (by simp[ho,Op.operands])).trans hy);generalize hu:ac.eval x=u at e1;obtain⟨ii,d,z,tk⟩:=ig ht;obtain⟨ie,de,ze,tke⟩:=ig gL;have j4:d= .array n e:=by
   have:=tk.arr;rw[ha]at this;cases d<;>simp[Jf]at this;rw[this.1,this.2]
  subst j4;have e1:=co e1;cases e1 with
  |agg _ vs hl h1 bA=>
   have rE:0≤i∧i < (n:Int):=⟨hi,by omega⟩;have oJ:i.toNat < vs.length:=by rw[←hl];exact(Xn.1 hq).1
   have IG:(isAgg e).run X.P w= .ok false w:=by
    unfold isAgg;rw[Sem.run_bind,run_underlying tke.und w];have:=tke.agg;rw[o8]at this;cases de<;>simp[MZ]at this ⊢
   refine⟨vs[i.toNat],?_,.d _ _ (bA i.toNat q _ hq (Xk oJ))⟩;simp[execOp,ho,hu,e2,Instr.index,asIntOf,run_underlying tk.und,rE,sizeOf,typeInfo,tke.info,tke.size,cP,part,IG,Xk oJ]
theorem Bi {t n e:Nat}{parts:Array (Nat × Operand)}{ti te:TI}{pd:List (Nat × List PV)}{out:List PV}(ho:o.op= .build t parts)(ht:aT X.P t=some ti)(ha:ti.arr=some (n,e))(gL:aT X.P e=some te)
 (hp:pd.length=parts.size) (hq:∀(j:Nat) (i:Nat) (x:Operand),parts[j]? =some (i,x)→pd[j]? =some (i,cR (ev s x))∧xY (ev s x)=true) (hf:pu ((X5 n).map fun i=>(i*te.size,te.size)) (ti.zero.map fun x=> .d (.v x)) pd=some out):
 bI X ops s o {pv:=rU out}:=by
 obtain⟨ii,d,z,tk⟩:=ig ht;obtain⟨ie,de,ze,tke⟩:=ig gL;have j4:d= .array n e:=by
  have:=tk.arr;rw[ha]at this;cases d<;>simp[Jf]at this;rw[this.1,this.2]
 subst j4;refine xZ hd ho ht (place:=fun i=>some (i*te.size,te.size)) (fun i p h=>?_) (fun ps=>?_) hp hq hf
 ·rw[Xz,XO]at h;obtain⟨m,hm,rfl⟩:=h;have:=(Xn.1 hm).2;simp at this;rw[this]
 ·unfold Program.built;have:z.cells=ti.zero.toArray:=by rw[←tk.zcells]
  simp only[tk.info,tk.und,tk.zero,tke.info,tke.size,this]
omit hd in
theorem zG {P:Program}{t:Nat}{ms:Array (String × TypeId)}(h:P.underlying t=some (.interface ms))(d:D)(M:Nat→Prop)(w:World)(v:Value)(hv:RepD M w d v)(hn:d= .nei∨d= .v .nilIface):
 (Op.equal t v .nilIface).run P w= .ok (match d with| .nei=>false|_=>true) w:=by
 unfold Op.equal;rcases hn with rfl|rfl
 ·cases hv;show (Op.equalIn (9999+1) t _ .nilIface).run P w=_;rw[Op.equalIn,Sem.run_bind,run_underlying h];rfl
 ·cases hv;show (Op.equalIn (9999+1) t .nilIface .nilIface).run P w=_;rw[Op.equalIn,Sem.run_bind,run_underlying h];rfl
theorem qB {op:BinOp}{t t':Nat}{x:Operand}{d:D}{ti:TI}{r:Bool}(ho:o.op= .binOp op t x (.const .nilIface) t')(ht:aT X.P t=some ti)(hk:ti.kind=5)(hx:ev s x= .d d)(hn:d= .nei∨d= .v .nilIface)
 (hr:(op= .eql∧r=(match d with| .nei=>false|_=>true))∨(op= .neq∧r=!(match d with| .nei=>false|_=>true))):bI X ops s o {pv:= .d (.v (.bool r))}:=
 aM hd fun s' he _ ac w c hc=>by
  have e1:=bM hc x;rw[he x (by simp[ho,Op.operands]),hx]at e1;generalize hu:ac.eval x=u at e1;have e1:=co e1;obtain⟨i,dd,z,tk⟩:=ig ht;have j4:∃ms,dd= .interface ms:=by
   have:=tk.kind;rw[hk]at this;cases dd<;>simp[pr]at this;exact⟨_,rfl⟩
  obtain⟨ms,rfl⟩:=j4;have hq:=zG tk.und d _ w u e1 hn;have hg:eqGuard op t x (.const .nilIface) u .nilIface=pure ():=by
   rcases hn with rfl|rfl
   ·cases e1;rcases hr with⟨rfl,-⟩|⟨rfl,-⟩<;>rfl
   ·cases e1;exact eqGuard_nil_constR _ _ _ _
  refine⟨.bool r,?_,.d _ _ (.v _)⟩;have hb:(binOp op t u .nilIface).run X.P w= .ok (.bool r) w:=by
   rcases hn with rfl|rfl
   ·cases e1;rcases hr with⟨rfl,rfl⟩|⟨rfl,rfl⟩<;>simp[binOp,hq]
   ·cases e1;rcases hr with⟨rfl,rfl⟩|⟨rfl,rfl⟩<;>simp[binOp,hq]
  have iV:ac.eval (.const .nilIface)= .nilIface:=rfl;simp[execOp,ho,hu,iV,hg,hb]
theorem Bj {op:BinOp}{t t':Nat}{x y:Operand}{k k':IntKind}{m n:Int}{r:Value}(ho:o.op= .binOp op t x y t')(lQ:op= .shl∨op= .shr)(hx:ev s x= .d (.v (.int k m)))(hy:ev s y= .d (.v (.int k' n)))(hr:zp op k m n=some r):
 bI X ops s o {pv:= .d (.v r)}:=
 aM hd fun s' he _ a w c hc=>by
  have h1:=cZ hc ((he x (by simp[ho,Op.operands])).trans hx);have h2:=cZ hc ((he y (by simp[ho,Op.operands])).trans hy);refine⟨r,?_,.d _ _ (.v _)⟩;rcases lQ with rfl|rfl
  ·simp[zp]at hr;obtain⟨h0,rfl⟩:=hr;simp[execOp,ho,h1,h2,eqGuard,binOp,Op.shift,Int.not_lt.2 h0]
  ·simp[zp]at hr;obtain⟨h0,rfl⟩:=hr;simp[execOp,ho,h1,h2,eqGuard,binOp,Op.shift,Int.not_lt.2 h0]
end
inductive SR where
 |no
 |res (p:PV) (eff:List (Nat × Chunk)) (touch:List Nat) (side:Prop)
 |call (g:Nat) (ps:List PV)
def qC (c a b:PV):SR:=
 match c with
 | .d (.v (.bool t))=>
  match a,b with
  | .d (.v (.bool p)),.d (.v (.bool q))=> .res (.d (.v (.bool (bif t then p else q)))) [] [] True
  |_,_=> .res (if t then a else b) [] [] True
 |_=> .no
def RZ (op:UnOp)(x:PV):SR:=
 match op,x with
 | .not,.d (.v (.bool b))=> .res (.d (.v (.bool (!b)))) [] [] True
 | .neg,.d (.v (.int k n))=> .res (.d (.v (.int k (k.wrap (0 - n))))) [] [] True
 |_,_=> .no
def Jw (x:PV):SR:=
 match x with
 | .ptr k off=> .res (.ptr k off) [] [] True
 | .rp k g sz i j=> .res (.rp k g sz i j) [] [] True
 | .d (.ept cs)=> .res (.d (.ept cs)) [] [] True
 |_=> .no
def Jy (ti:Option TI)(q:Option Nat)(op:BinOp)(x y:PV):SR:=
 match x,y with
 | .d (.v (.int k m)),.d (.v (.int k' n))=>
  if k=k' then
   match op with
   | .quo=> .res (.d (.v (.int k (k.wrap (m.tdiv n))))) [] [] (n≠0)
   | .rem=> .res (.d (.v (.int k (m.tmod n)))) [] [] (n≠0)
   |_=>match zp op k m n with
    |some r=> .res (.d (.v r)) [] [] True
    |none=> .no
  else
   match op with
   | .shl=>match zp .shl k m n with|some r=> .res (.d (.v r)) [] [] True|none=> .no
   | .shr=>match zp .shr k m n with|some r=> .res (.d (.v r)) [] [] True|none=> .no
   |_=> .no
 | .d (.v (.string m)),.d (.v (.string n))=>
  match op with
  | .add=> .res (.d (.v (.string (m++n)))) [] [] (m.size+n.size≤9223372036854775807)
  | .eql=> .res (.d (.v (.bool (decide (m=n))))) [] [] True
  | .neq=> .res (.d (.v (.bool !decide (m=n)))) [] [] True
  |_=> .no
 | .d (.v (.bool m)),.d (.v (.bool n))=>
  match ti,op with
  |some ti,.eql=> .res (.d (.v (.bool (m==n)))) [] [] (ti.kind=1)
  |some ti,.neq=> .res (.d (.v (.bool (m !=n)))) [] [] (ti.kind=1)
  |_,_=> .no
 | .d (.v (.pointer none)),.d (.v (.pointer none))=>
  match ti,op with
  |some ti,.eql=> .res (.d (.v (.bool true))) [] [] (ti.kind=3)
  |some ti,.neq=> .res (.d (.v (.bool false))) [] [] (ti.kind=3)
  |_,_=> .no
 | .ptr _ _,.d (.v (.pointer none))=>
  match ti,op with
  |some ti,.eql=> .res (.d (.v (.bool false))) [] [] (ti.kind=3)
  |some ti,.neq=> .res (.d (.v (.bool true))) [] [] (ti.kind=3)
  |_,_=> .no
 | .rp _ _ _ _ _,.d (.v (.pointer none))=>
  match ti,op with
  |some ti,.eql=> .res (.d (.v (.bool false))) [] [] (ti.kind=3)
  |some ti,.neq=> .res (.d (.v (.bool true))) [] [] (ti.kind=3)
  |_,_=> .no
 | .d (.ept _),.d (.v (.pointer none))=>
  match ti,op with
  |some ti,.eql=> .res (.d (.v (.bool false))) [] [] (ti.kind=3)
  |some ti,.neq=> .res (.d (.v (.bool true))) [] [] (ti.kind=3)
  |_,_=> .no
 | .d (.sl _ (_::_)),.d (.v (.slice none _ _))=>
  match ti,op with
  |some ti,.eql=> .res (.d (.v (.bool false))) [] [] (ti.elem.isSome=true)
  |some ti,.neq=> .res (.d (.v (.bool true))) [] [] (ti.elem.isSome=true)
  |_,_=> .no
 | .d (.v (.slice ao _ _)),.d (.v (.slice none _ _))=>
  match ti,op with
  |some ti,.eql=> .res (.d (.v (.bool ao.isNone))) [] [] (ti.elem.isSome=true)
  |some ti,.neq=> .res (.d (.v (.bool !ao.isNone))) [] [] (ti.elem.isSome=true)
  |_,_=> .no
 | .d (.agg ds),.d (.agg es)=>
  match q,pt ds,pt es with
  |some n,some xs,some ys=>
   match op with
   | .eql=> .res (.d (.v (.bool (xs==ys)))) [] [] (xs.length=n∧ys.length=n)
   | .neq=> .res (.d (.v (.bool (xs !=ys)))) [] [] (xs.length=n∧ys.length=n)
   |_=> .no
  |_,_,_=> .no
 |_,_=> .no
def Jz (ti:Option TI)(op:BinOp)(x:PV):SR:=
 match ti,op,x with
 |some ti,.eql,.d .nei=> .res (.d (.v (.bool false))) [] [] (ti.kind=5)
 |some ti,.neq,.d .nei=> .res (.d (.v (.bool true))) [] [] (ti.kind=5)
 |some ti,.eql,.d (.v .nilIface)=> .res (.d (.v (.bool true))) [] [] (ti.kind=5)
 |some ti,.neq,.d (.v .nilIface)=> .res (.d (.v (.bool false))) [] [] (ti.kind=5)
 |_,_,_=> .no
def uO (ti:Option TI)(f:Nat)(x:PV):SR:=
 match ti with
 |some ti=>
  match ti.fields[f]? with
  |some (off,sz)=>
   match x with
   | .d (.ept ds)=> .res (.d (.ept (ds.drop off))) [] [] (sz≠0)
   | .ptr k o'=> .res (.ptr k (o'+off)) [] [] (sz≠0)
   | .rp k g sz' i j=> .res (.rp k g sz' i (j+off)) [] [] (sz≠0)
   |_=> .no
  |none=> .no
 |none=> .no
def Bk (ti:Option TI)(h:Nat→Chunk)(x:PV):SR:=
 match ti with
 |some ti=>
  match x with
  | .d (.ept ds)=>
   if ti.agg then .res (.d (.agg (ds.take ti.size))) [] [] (ti.size≤ds.length)
   else match ds with
    |d::_=> .res (.d d) [] [] (ti.size=1)
    |[]=> .no
  | .ptr k off=>
   match h k with
   | .box _ cells=>
    if ti.agg then .res (rU ((cells.drop off).take ti.size)) [] [k] (off+ti.size≤cells.length)
    else match cells.drop off with
     |p::_=> .res p [] [k] (ti.size=1)
     |[]=> .no
   |_=> .no
  | .rp k g sz i j=>
   match h k with
   | .row _ sz' g' rows=>
    match rows[i]? with
    |some row=>
     if ti.agg then .res (rU ((row.drop j).take ti.size)) [] [k] (g=g'∧sz=sz'∧j+ti.size≤sz)
     else match row.drop j with
      |p::_=> .res p [] [k] (g=g'∧sz=sz'∧ti.size=1∧j+1≤sz)
      |[]=> .no
    |none=> .no
   |_=> .no
  |_=> .no
 |none=> .no
def uP (T:Nat→Option TI)(ti:Option TI)(h:Nat→Chunk)(x y:PV):SR:=
 match ti with
 |some ti=>
  match ti.elem with
  |some e=>
   match T e with
   |some te=>
    match y with
    | .d (.v (.int _ n))=>
     match x with
     | .d (.sl sz rows)=>match rows[n.toNat]? with|some row=> .res (.d (.ept row)) [] [] (te.size=sz∧0≤n)|none=> .no
     | .own k g=>
      match h k with
      | .row e' sz g' rows=> .res (.rp k g sz n.toNat 0) [] [k] (e'=e∧g'=g∧te.size=sz∧0≤n∧n.toNat < rows.length)
      |_=> .no
     | .osl k g sz st m=> .res (.rp k g sz (st+n.toNat) 0) [] [] (te.size=sz∧0≤n∧n.toNat < m)
     |_=> .no
    |_=> .no
   |none=> .no
  |none=>
   match ti.arr,x,y with
   |some (m,e),.ptr k off,.d (.v (.int _ n))=>
    match T e with
    |some te=> .res (.ptr k (off+n.toNat*te.size)) [] [] (0≤n∧n.toNat < m)
    |none=> .no
   |_,_,_=> .no
 |none=> .no
def uQ (T:Nat→Option TI)(ti:Option TI)(x y:PV):SR:=
 match ti with
 |some ti=>
  match x,y with
  | .d (.v (.string a)),.d (.v (.int _ n))=> .res (.d (.v (.int .u8 (zF a n.toNat)))) [] [] (ti.kind=2∧0≤n∧n.toNat < a.size)
  | .d (.agg ds),.d (.v (.int _ n))=>
   match ti.arr with
   |some (m,e)=>
    match T e with
    |some te=>match ds[n.toNat]? with|some q=> .res (.d q) [] [] (te.size=1∧te.agg=false∧0≤n∧n.toNat < m)|none=> .no
    |none=> .no
   |none=> .no
  |_,_=> .no
 |none=> .no
def yf (x:PV)(i:Nat):SR:=
 match x with
 | .d (.tup ds)=>match ds[i]? with|some d=> .res (.d d) [] [] True|none=> .no
 | .tup ds=>match ds[i]? with|some d=> .res d [] [] True|none=> .no
 |_=> .no
def r6 (e:cu):List (Nat × Operand)→Option (List (Nat × List PV))
 |[]=>some []
 |(i,x)::l=>
  if xY (dI e x)then
   match r6 e l with
   |some pd=>some ((i,cR (dI e x))::pd)
   |none=>none
  else none
def uR (T:Nat→Option TI)(ti:Option TI)(e:cu)(parts:List (Nat × Operand)):SR:=
 match ti with
 |some ti=>
  match ti.fields with
  |[]=>
   match ti.arr with
   |some (n,el)=>
    match T el,r6 e parts with
    |some te,some pd=>
     match pu ((X5 n).map fun i=>(i*te.size,te.size)) (ti.zero.map fun x=> .d (.v x)) pd with
     |some out=> .res (rU out) [] [] True
     |none=> .no
    |_,_=> .no
   |none=> .no
  |_::_=>
   match r6 e parts with
   |some pd=>
    match pu ti.fields (ti.zero.map fun x=> .d (.v x)) pd with
    |some out=> .res (rU out) [] [] True
    |none=> .no
   |none=> .no
 |none=> .no
def Bl (e:cu):Nat→List (Nat × Operand)→Option (List (List PV))
 |_,[]=>some []
 |n,(i,x)::l=>
  if xY (dI e x)&&(i==n)then
   match Bl e (n+1) l with
   |some rows=>some (cR (dI e x)::rows)
   |none=>none
  else none
def RC:List (List PV)→Option (List (List D))
 |[]=>some []
 |r::l=>match uF r,RC l with|some d,some ds=>some (d::ds)|_,_=>none
def uS (sz:Nat):List (List PV)→Prop
 |[]=>True
 |r::l=>r.length=sz∧uS sz l
def JA (T:Nat→Option TI)(ti:Option TI)(nk:Nat)(e:cu)(n:Nat)(parts:List (Nat × Operand)):SR:=
 match ti with
 |some ti=>
  match ti.elem with
  |some el=>
   match T el with
   |some te=>
    match n,parts with
    |0,[]=> .res (.own nk 0) [(nk,.row el te.size 0 [])] [nk] True
    |n+1,parts=>
     match Bl e 0 parts with
     |some rows=>
      match (if te.kind=2 then none else RC rows)with
      |some ds=> .res (.d (.sl te.size ds)) [] [] (0 < te.size∧(n+1)*te.size≤16777216∧rows.length=n+1∧uS te.size rows)
      |none=> .res (.own nk 0) [(nk,.row el te.size 0 rows)] [nk] (0 < te.size∧(n+1)*te.size≤16777216∧rows.length=n+1∧uS te.size rows)
     |none=> .no
    |_,_=> .no
   |none=> .no
  |none=> .no
 |none=> .no
def Bm (T:Nat→Option TI)(ti:Option TI)(nk:Nat)(x y:PV):SR:=
 match ti with
 |some ti=>
  match ti.elem with
  |some el=>
   match T el with
   |some te=>
    match te.zero,x,y with
    |[zv],.d (.v (.int _ n)),.d (.v (.int _ m))=> .res (.own nk 0) [(nk,.row el 1 0 (XV n.toNat [.d (.v zv)]))] [nk] (n=m∧0 < n∧(te.bytes:Int)*n≤281474976710656∧n≤9223372036854775807)
    |_,_,_=> .no
   |none=> .no
  |none=> .no
 |none=> .no
def Bn (T:Nat→Option TI)(ts td:Option TI)(x:PV):SR:=
 match ts,td with
 |some ts,some td=>
  match td.int,x with
  |some k,.d (.v (.int _ n))=> .res (.d (.v (.int k (k.wrap n)))) [] [] True
  |none,.d (.sl 1 rows)=>
   match ts.elem with
   |some e=>
    match T e with
    |some te=>match nX rows with|some xs=> .res (.d (.v (.string (strOfNums xs)))) [] [] (te.int=some .u8∧td.kind=2)|none=> .no
    |none=> .no
   |none=> .no
  |_,_=> .no
 |_,_=> .no
def JB (ti:Option TI)(h:Nat→Chunk)(x:PV):SR:=
 match ti with
 |some ti=>
  match ti.elem with
  |some _=>
   match x with
   | .d (.sl _ rows)=> .res (.d (.v (.int .i64 rows.length))) [] [] True
   | .d (.v (.slice none 0 0))=> .res (.d (.v (.int .i64 (0:Nat)))) [] [] True
   | .own k g=>match h k with| .row _ _ g' rows=> .res (.d (.v (.int .i64 rows.length))) [] [k] (g=g')|_=> .no
   | .osl _ _ _ _ n=> .res (.d (.v (.int .i64 n))) [] [] True
   |_=> .no
  |none=>match x with| .d (.v (.string a))=> .res (.d (.v (.int .i64 a.size))) [] [] (ti.kind=2)|_=> .no
 |none=> .no
def Nb (h:Nat→Chunk)(sz:Nat)(y:PV):Option (List (List PV) × List Nat):=
 match y with
 | .d (.sl sz' news)=>if sz'=sz then some (ab news,[])else none
 | .d (.v (.slice _ 0 _))=>some ([],[])
 | .own k g=>match h k with| .row _ sz' g' rows=>if sz'=sz∧g'=g then some (rows,[k])else none|_=>none
 | .osl k g sz' st n=>match h k with| .row _ sz'' g' rows=>if sz'=sz∧sz''=sz∧g'=g then some ((rows.drop st).take n,[k])else none|_=>none
 |_=>none
def JC (T:Nat→Option TI)(ti:Option TI)(nk:Nat)(h:Nat→Chunk)(x y:PV):SR:=
 match ti with
 |some ti=>
  match ti.elem with
  |some el=>
   match T el with
   |some te=>
    if te.size=0∨te.bytes=0 then .no else
    match Nb h te.size y with
    |some (news,ty)=>
     match x with
     | .own k g=>
      match h k with
      | .row e' sz g' rows=> .res (.own k (g+1)) [(k,.row e' sz (g+1) (rows++news))] (k::ty) (e'=el∧g'=g∧te.size=sz∧(rows.length+news.length)*te.bytes≤140737488355328)
      |_=> .no
     | .d (.v (.slice none 0 0))=> .res (.own nk 0) [(nk,.row el te.size 0 news)] (nk::ty) (news.length*te.bytes≤140737488355328)
     | .osl k g sz st n=>
      match h k with
      | .row e' sz' g' rows=> .res (.osl k g sz 0 (n+news.length)) [(k,.row e' sz' g' (ay rows n news))] (k::ty) (st=0∧e'=el∧g'=g∧sz'=sz∧te.size=sz∧rows≠[]∧n+news.length≤rows.length)
      |_=> .no
     |_=> .no
    |none=> .no
   |none=> .no
  |none=> .no
 |none=> .no
def uT (ti:Option TI)(h:Nat→Chunk)(dst:Option Nat)(x y:PV):SR:=
 match ti,dst with
 |some ti,none=>
  match x with
  | .ptr k off=>
   match h k with
   | .box T cells=>if xY y then .res .any [(k,.box T (ay cells off (cR y)))] [k] ((cR y).length=ti.size∧off+ti.size≤cells.length)else .no
   |_=> .no
  | .rp k g sz i j=>
   match h k with
   | .row E sz' g' rows=>
    match rows[i]? with
    |some row=>if xY y then .res .any [(k,.row E sz' g' (rows.set i (ay row j (cR y))))] [k] (g=g'∧sz=sz'∧(cR y).length=ti.size∧j+ti.size≤sz)else .no
    |none=> .no
   |_=> .no
  |_=> .no
 |_,_=> .no
def uU (T:Nat→Option TI)(ti:Option TI)(h:Nat→Chunk)(x:PV)(lo hi mx:Option PV):SR:=
 match ti with
 |some ti=>
  match ti.elem with
  |some e=>
   match T e with
   |some te=>
    match mx with
    |none=>
     match x with
     | .d (.sl sz rows)=>
      match Fs lo,Ft rows.length hi with
      |some l,some r=> .res (.d (.sl sz ((rows.take r).drop l))) [] [] (te.size=sz∧l≤r∧r≤rows.length)
      |_,_=> .no
     | .own k g=>
      match h k with
      | .row e' sz g' []=>
       match Fs lo,Ft 0 hi with
       |some l,some r=> .res .any [] [k] (e'=e∧g'=g∧te.size=sz∧l=0∧r=0)
       |_,_=> .no
      | .row e' sz g' rows=>
       match Fs lo,Ft rows.length hi with
       |some l,some r=> .res (.osl k g sz l (r - l)) [] [k] (e'=e∧g'=g∧te.size=sz∧rows≠[]∧l≤r∧r≤rows.length)
       |_,_=> .no
      |_=> .no
     | .osl k g sz st n=>
      match h k with
      | .row e' sz' g' rows=>
       match Fs lo,Ft n hi with
       |some l,some r=> .res (.osl k g sz (st+l) (r - l)) [] [k] (e'=e∧g'=g∧sz'=sz∧te.size=sz∧rows≠[]∧l≤r∧st+r≤rows.length)
       |_,_=> .no
      |_=> .no
     |_=> .no
    |some m=>
     match x,lo,hi,m with
     | .own k g,some (.d (.v (.int _ n1))),some (.d (.v (.int _ n2))),.d (.v (.int _ n3))=>
      match h k with
      | .row e' sz g' rows=> .res .any [] [k] (e'=e∧g'=g∧te.size=sz∧rows≠[]∧0≤n1∧n1≤n2∧n2≤n3∧n3≤(rows.length:Int))
      |_=> .no
     |_,_,_,_=> .no
   |none=> .no
  |none=>
   match x,mx with
   | .d (.v (.string a)),none=>
    match Fs lo,Ft a.size hi with
    |some l,some r=> .res (.d (.v (.string (a.extract l r)))) [] [] (ti.kind=2∧l≤r∧r≤a.size)
    |_,_=> .no
   |_,_=> .no
 |none=> .no
def uV (T:Nat→Option TI)(ti:Option TI)(h:Nat→Chunk)(x:PV):SR:=
 match ti with
 |some ti=>
  match ti.elem with
  |some e=>
   match T e with
   |some te=>
    match x with
    | .osl k g sz st n=>
     match h k with
     | .row e' sz' g' rows=> .res (.d (.v (.tuple #[]))) [(k,.row e' sz' g' (ay rows st (XV n (te.zero.map fun x=> .d (.v x)))))] [k] (e'=e∧g'=g∧sz'=sz∧te.size=sz∧rows≠[]∧st+n≤rows.length)
     |_=> .no
    |_=> .no
   |none=> .no
  |none=> .no
 |none=> .no
def nY (ti:Option TI)(nk:Nat):SR:=
 match ti with
 |some ti=>
  match ti.mp with
  |some (n,sB)=> .res (.mref nk) [(nk,.mp n sB [])] [nk] True
  |none=> .no
 |none=> .no
def qD (ti:Option TI)(h:Nat→Chunk)(m x:PV)(ok:Bool):SR:=
 match ti with
 |some ti=>
  match ti.mp with
  |some (n,sB)=>
   match m with
   | .mref k=>
    match h k with
    | .mp n' sB' ents=>
     match D1 sB x with
     |some xs=> .res (if ok then .d (.tup [.v (.int .i64 ((kz ents xs).getD 0)),.v (.bool (kz ents xs).isSome)])else .d (.v (.int .i64 ((kz ents xs).getD 0)))) [] [k] (n'=n∧sB'=sB∧xs.length=n)
     |none=> .no
    |_=> .no
   |_=> .no
  |none=> .no
 |none=> .no
def r7 (ti:Option TI)(h:Nat→Chunk)(dst:Option Nat)(m x y:PV):SR:=
 match ti,dst with
 |some ti,none=>
  match ti.mp with
  |some (n,sB)=>
   match m with
   | .mref k=>
    match h k with
    | .mp n' sB' ents=>
     match D1 sB x,y with
     |some xs,.d (.v (.int .i64 v))=> .res .any [(k,.mp n' sB' (l7 ents xs v))] [k] (n'=n∧sB'=sB∧xs.length=n)
     |_,_=> .no
    |_=> .no
   |_=> .no
  |none=> .no
 |_,_=> .no
def uW (ti:Option TI)(h:Nat→Chunk)(nk:Nat)(m:PV):SR:=
 match ti with
 |some ti=>
  match ti.mp with
  |some (n,sB)=>
   match m with
   | .mref k=>
    match h k with
    | .mp n' sB' ents=> .res (.ptr nk 0) [(nk,.it n' sB' ents []),(k,.gone)] [k,nk] (n'=n∧sB'=sB)
    |_=> .no
   |_=> .no
  |none=> .no
 |none=> .no
def uX (h:Nat→Chunk)(x:PV):SR:=
 match x with
 | .ptr k 0=>
  match h k with
  | .it _ _ ents seen=>
   match seen.getLast? with
   |some i=>
    match ents[i]? with
    |some kv=> .res (.tup [.any,.d (.v (.int .i64 kv.2))]) [] [k] True
    |none=> .no
   |none=> .no
  |_=> .no
 |_=> .no
def Bo (f:PV)(args:List PV):SR:=
 match f with
 | .clo g caps=> .call g (args++caps)
 | .d (.clo g cd)=> .call g (args++cd.map .d)
 |_=> .no
def MG (T:Nat→Option TI)(Q:Nat→Option Nat)(e:cu)(hl:List Chunk)(o:Oper):SR:=
 match o.op with
 | .move x=> .res (dI e x) [] [] True
 | .assign x=> .res (dI e x) [] [] True
 | .pick c a b=>qC (dI e c) (dI e a) (dI e b)
 | .unOp op _ x=>RZ op (dI e x)
 | .nilCheck x=>Jw (dI e x)
 | .binOp op t x (.const .nilIface) _=>Jz (T t) op (dI e x)
 | .binOp op t x y _=>Jy (T t) (Q t) op (dI e x) (dI e y)
 | .fieldAddr t x f=>uO (T t) f (dI e x)
 | .load t x=>Bk (T t) (aG hl) (dI e x)
 | .indexAddr t x y=>uP T (T t) (aG hl) (dI e x) (dI e y)
 | .index t x y=>uQ T (T t) (dI e x) (dI e y)
 | .extract x i=>yf (dI e x) i
 | .alloc t=>match T t with|some ti=> .res (.ptr hl.length 0) [(hl.length,.box t (ti.zero.map fun x=> .d (.v x)))] [hl.length] True|none=> .no
 | .box t x=>if xY (dI e x)then .res (.ptr hl.length 0) [(hl.length,.box t (cR (dI e x)))] [hl.length] True else .no
 | .store t x y=>uT (T t) (aG hl) o.dst (dI e x) (dI e y)
 | .build t ⟨parts⟩=>uR T (T t) e parts
 | .buildSlice t n ⟨parts⟩=>JA T (T t) hl.length e n parts
 | .makeFunc (.func g) ⟨[]⟩ ⟨caps⟩=> .res (.clo g (caps.map (dI e))) [] [] True
 | .convert src dst x=>Bn T (T src) (T dst) (dI e x)
 | .call ⟨.builtin .len,⟨[x]⟩,⟨[t]⟩⟩=>JB (T t) (aG hl) (dI e x)
 | .slice t x lo hi mx=>uU T (T t) (aG hl) (dI e x) (lo.map (dI e)) (hi.map (dI e)) (mx.map (dI e))
 | .call ⟨.builtin .clear,⟨[x]⟩,⟨[t]⟩⟩=>uV T (T t) (aG hl) (dI e x)
 | .call ⟨.builtin .append,⟨[x,y]⟩,⟨[t,t']⟩⟩=>if t=t' then JC T (T t) hl.length (aG hl) (dI e x) (dI e y)else .no
 | .call ⟨.builtin .min,⟨[x,y]⟩,_⟩=>match dI e x,dI e y with| .d (.v (.int k m)),.d (.v (.int k' n))=>if k=k' then .res (.d (.v (.int k (if n < m then n else m)))) [] [] True else .no|_,_=> .no
 | .call ⟨.builtin .max,⟨[x,y]⟩,_⟩=>match dI e x,dI e y with| .d (.v (.int k m)),.d (.v (.int k' n))=>if k=k' then .res (.d (.v (.int k (if m < n then n else m)))) [] [] True else .no|_,_=> .no
 | .call ⟨.value f,⟨args⟩,_⟩=>Bo (dI e f) (args.map (dI e))
 | .makeSlice t x y=>Bm T (T t) hl.length (dI e x) (dI e y)
 | .makeMap t none=>nY (T t) hl.length
 | .lookup t m x ok=>qD (T t) (aG hl) (dI e m) (dI e x) ok
 | .range t m=>uW (T t) (aG hl) hl.length (dI e m)
 | .entry x=>uX (aG hl) (dI e x)
 | .mapUpdate t m x y=>r7 (T t) (aG hl) o.dst (dI e m) (dI e x) (dI e y)
 | .insert t m x y=>r7 (T t) (aG hl) o.dst (dI e m) (dI e x) (dI e y)
 |_=> .no
end Go.Proofs.YtmicljipaiohkaaGreat
