/- Texts of this work, joined. -/
import Derived.Test.YtmicljipaiohkaaGreatZHSiteDoes0
import Derived.WalkKit
import Derived.WalkSmall
import Derived.WideKeyRuns
import Derived.Carry
import Derived.Laws.MakeOwn
import Derived.Maps.RangeRun
import Derived.Laws.IdiomRangeMap
import Derived.WalkMore
import Derived.Laws.BytesArg
set_option linter.unusedSimpArgs false
set_option linter.unusedVariables false
set_option maxRecDepth 100000
set_option maxHeartbeats 16000000
namespace Go.Proofs.YtmicljipaiohkaaGreat
open Go Go.RowKit Go.Proofs.Tryz
open _root_.List renaming getElem?_eq_getElem → Xk, mem_of_getElem? → Xl, map_cons → Xm, getElem?_eq_some_iff → Xn, length_take → Xq, take_length → Xt, set_cons_zero → Xu, map_nil → Xv, set_cons_succ → Xx, getElem?_map → Xz, length_cons → XA, all_eq_true → XC, length_map → XD, getElem?_append_right → XH, length_drop → XJ, getD_eq_getElem?_getD → XK, take_of_length_le → XN, mem_map → XQ, getElem?_take_of_lt → XS, getElem?_eq_none → XT, replicate → XV, length_append → XY, length_nil → XZ, getElem?_append_left → X2, mem_append → X3, append_assoc → X4, range → X5, mem_cons → X7, cons_append → X8, eq_nil_of_length_eq_zero → X9, nil_append → Ya, getElem_of_mem → Yb, mem_singleton → Yc, mem_of_mem_drop → Yd, mem_of_mem_take → Yf, ext_getElem? → Yj, getElem?_drop → Yk, take_append_of_le_length → Yl, getElem_mem → Ym, append_nil → Yw, getElem?_cons_succ → Yx, size_toArray → YH, foldl_cons → YO, drop_eq_getElem_cons → YQ, mem_range → YR, flatten_cons → YU, length_set → YV, filter_append → YW, filter_eq_self → Y0, toList_toArray → Y1, mem_or_eq_of_mem_set → Y4, mem_map_of_mem → Y8, length_filter_le → Za, mem_cons_of_mem → Zc, length_pos_iff → Zd, filter_filter → Zi, getElem?_take → Zj, foldl_append → Zn, filter_eq_nil_iff → Zo, map_congr_left → Zr, mem_filter → Zt, filter_cons → Zu, eq_of_mem_replicate → Zv, take_succ_cons → ZC, mem_append_left → ZP, getElem?_range → ZU, mem_flatten → ZW, getElem?_replicate → ZX, filter_congr → Z2, take_zero → Z4, flatten_append → B', mem_cons_self → F', drop_of_length_le → L', mem_toArray → _c, drop_append → _d
open _root_.Bool renaming and_eq_true → Xy, eq_iff_iff → Yi, and_self → Yp, true_and → Yr, and_true → YA, false_eq_true → YB, or_eq_false_iff → Zm, not_eq_true' → Zz
open _root_.Nat renaming le_refl → XB, zero_le → XE, zero_add → XG, lt_or_ge → XP, add_zero → XW, sub_zero → Yo, mul_le_mul_right → Yt, lt_of_lt_of_le → Yy, le_trans → Yz, sub_self → YG, succ_mul → YY, mul_comm → Zp, div_lt_of_lt_mul → Zw, add_assoc → ZF, eq_zero_or_pos → ZJ, div_add_mod → ZN, add_mul → ZQ, mul_one → X', mod_lt → Y', not_lt → _g
open _root_.Option renaming map_eq_some_iff → XO, some → XX, map_some → Ye, getD_some → YI, bind_some → Y6, map_none → Zg
open _root_.Array renaming getElem?_toList → X6, getElem?_eq_some_iff → Ys, getD_eq_getD_getElem? → Yv, getElem?_eq_none → YM, getElem?_eq_getElem → YP, replicate → Y5, getElem?_modify → Y9, mem_of_getElem? → Z1, toList_map → Z9, getElem?_setIfInBounds_ne → S', toArray_toList → V', range → _b, ext' → _h
open Go.World renaming cell? → YS, cell?_of_block → Zl, setRow → ZE, alloc_eq → J'
open _root_.Int renaming le_refl → ZG, toNat_of_nonneg → ZV
abbrev dA (w w':World):Prop:=Below w.heap.size w w'
structure Bel (B:Nat)(a w:World):Prop where
 bel:Below B a w
 le:B≤w.heap.size
theorem Bel.refl (w:World):Bel w.heap.size w w:=⟨Below.refl _ _,XB _⟩
theorem Bel.alloc {B:Nat}{a w:World}(h:Bel B a w)(o:Obj):Bel B a (w.alloc o):=⟨h.bel.alloc h.le o,by have:=h.le;simp;omega⟩
theorem Bel.setCell {B:Nat}{a w:World}(h:Bel B a w){p:Addr}(hp:B≤p.block)(u:Value):Bel B a (w.setCell p u):=
 ⟨h.bel.setCell hp u,by have:=h.le;simpa[World.setCell]using this⟩
theorem Bel.setCell0 {B:Nat}{a w:World}(h:Bel B a w){b o:Nat}(hp:B≤b)(u:Value):Bel B a (w.setCell ⟨b,o,none⟩ u):=h.setCell (p:=⟨b,o,none⟩) hp u
theorem Bel.drewN {B:Nat}{a w:World}(h:Bel B a w)(n:Nat):Bel B a (w.drewN n):=⟨below_drewN h.bel n,h.le⟩
theorem Bel.drew {B:Nat}{a w:World}(h:Bel B a w):Bel B a w.drew:=⟨h.bel.drew,h.le⟩
theorem Bel.call {B:Nat}{a w w':World}(h:Bel B a w)(k:dA w w'):Bel B a w':=⟨h.bel.trans (k.mono h.le),Yz h.le k.size⟩
theorem Bel.ext {a w:World}(h:Bel a.heap.size a w):dA a w:=h.bel
theorem Bel.cell {B:Nat}{a w:World}(h:Bel B a w){b off:Nat}{v:Value}(hb:b < B)(hc:a.cell? ⟨b,off,none⟩=some v):w.cell? ⟨b,off,none⟩=some v:=
 (h.bel.cell (p:=⟨b,off,none⟩) hb).trans hc
theorem aJ {W w1:World}(hb:dA W w1):(∀b o,b < W.heap.size→w1.cell? ⟨b,o,none⟩=W.cell? ⟨b,o,none⟩)∧(∀b o,b < W.heap.size→w1.frozen? ⟨b,o,none⟩=W.frozen? ⟨b,o,none⟩):=
 ⟨fun b o h=>hb.cell (p:=⟨b,o,none⟩) h,fun b o h=>hb.frozen (p:=⟨b,o,none⟩) h⟩
theorem br {W w1:World}(hb:dA W w1):W.heap.size≤w1.heap.size:=hb.size
theorem aa (w:World)(a:Addr)(v:Value):(w.setCell a v).heap.size=w.heap.size:=by simp[World.setCell]
theorem bV {X w1:World}(h:dA X w1){b o:Nat}{v:Value}(hc:X.cell? ⟨b,o,none⟩=some v):w1.cell? ⟨b,o,none⟩=some v:=
 (h.cell (p:=⟨b,o,none⟩) (World.block_lt_of_cell? X ⟨b,o,none⟩ hc)).trans hc
abbrev lW:=Nat→Prop
def lA (w:World)(b off:Nat)(cs:List Value):Prop:=∀i (h:i < cs.length),w.cell? ⟨b,off+i,none⟩=some cs[i]
structure Sl {α:Type}(A:lW)(w:World)(k:Nat)(R:List Value→α→Prop)(ao:Option Addr)(cap:Nat)(l:List α):Prop where
 cap_le:l.length≤cap
 cap_max:cap≤9223372036854775807
 elem:∀i (h:i < l.length),∃b off cs,ao=some ⟨b,off,none⟩∧A b∧cs.length=k∧R cs l[i]∧lA w b (off+i*k) cs
def SB {α:Type}(A:lW)(w:World)(k:Nat)(R:List Value→α→Prop)(v:Value)(l:List α):Prop:=
 ∃ao cap,v= .slice ao l.length cap∧Sl A w k R ao cap l
theorem dF {w:World}{b off:Nat}{v:Value}(h:w.cell? ⟨b,off,none⟩=some v):b < w.heap.size:=by
 rcases XP b w.heap.size with hb|hb
 ·exact hb
 ·simp[YS,YM hb]at h
theorem xv {w:World}{b o:Nat}{cs:Array Value}{t:TypeId}{f:Nat × Nat}{v:Value}(h:w.heap[b]? =some (.cells cs t f))(hv:cs[o]? =some v):w.cell? ⟨b,o,none⟩=some v:=by
 simp[YS,h,hv]
theorem lP {w:World}{b o:Nat}{cs:Array Value}{t:TypeId}(h:w.heap[b]? =some (.cells cs t (0,0))):w.frozen? ⟨b,o,none⟩=false:=by
 simp[World.frozen?,h]
theorem ed {w:World}{o:Obj}{b:Nat}{x:Obj}(h:w.heap[b]? =some x):(w.alloc o).heap[b]? =some x:=by
 have hlt:b < w.heap.size:=by
  rcases XP b w.heap.size with h'|h'
  ·exact h'
  ·simp[YM h']at h
 rw[Below.heap_alloc _ _ _ hlt,h]
theorem yq (w:World)(o:Obj):(w.alloc o).heap[w.heap.size]? =some o:=by
 show (w.heap.push o)[w.heap.size]? =_;simp
theorem kL {w:World}{n:Nat}(o:Obj)(h:w.heap.size=n):(w.alloc o).heap[n]? =some o:=by subst h;exact yq w o
theorem xw {w:World}{b o:Nat}{c:Array Value}{t:TypeId}{f:Nat × Nat}(h:w.heap[b]? =some (.cells c t f))(v:Value):(w.setCell ⟨b,o,none⟩ v).heap[b]? =some (.cells (c.setIfInBounds o v) t f):=by
 simp[World.setCell,Y9,h]
theorem lX {w:World}{b:Nat}{a:Addr}(v:Value)(h:a.block≠b):(w.setCell a v).heap[b]? =w.heap[b]? :=Below.heap_setCell _ _ _ _ (fun e=>h e.symm)
theorem yr {w w':World}(hx:dA w w'){b:Nat}{o:Obj}(hb:w.heap[b]? =some o):w'.heap[b]? =some o:=by
 have hlt:b < w.heap.size:=by
  rcases XP b w.heap.size with h|h
  ·exact h
  ·simp[YM h]at hb
 rw[hx.block b hlt,hb]
theorem aw (w:World)(o:Obj):dA w (w.alloc o):=((Bel.refl w).alloc o).bel
theorem aj {a b c:World}(h:dA a b)(k:dA b c):dA a c:=Below.trans h (Below.mono k h.size)
inductive D where
 |v (x:Value)
 |sl (sz:Nat) (rows:List (List D))
 |ept (cells:List D)
 |agg (cells:List D)
 |tup (vs:List D)
 |clo (g:Nat) (caps:List D)
 |nei
def D.one:D→Bool
 | .v x=>x.oneCell'
 | .agg _=>false
 | .tup _=>false
 |_=>true
inductive RepD (M:Nat→Prop) (w:World):D→Value→Prop
 |v (x:Value):RepD M w (.v x) x
 |nil (sz:Nat) (ao:Option Addr) (cap:Nat) (hm:cap≤9223372036854775807):RepD M w (.sl sz []) (.slice ao 0 cap)
 |sl (sz:Nat) (rows:List (List D)) (b off cap:Nat) (f:Nat→Nat→Value) (hM:¬M b) (hb:b < w.heap.size) (hc:rows.length≤cap) (hm:cap≤9223372036854775807)
  (hr:∀r∈rows,r.length=sz) (h1:∀r∈rows,∀d∈r,d.one=true)
  (dC:∀i j,i < rows.length→j < sz→w.cell? ⟨b,off+i*sz+j,none⟩=some (f i j))
  (bA:∀(i j:Nat) (row:List D) (d:D),rows[i]? =some row→row[j]? =some d→RepD M w d (f i j)):RepD M w (.sl sz rows) (.slice (some ⟨b,off,none⟩) rows.length cap)
 |ept (cells:List D) (b off:Nat) (f:Nat→Value) (hM:¬M b) (hb:b < w.heap.size) (h1:∀d∈cells,d.one=true)
  (dC:∀j,j < cells.length→w.cell? ⟨b,off+j,none⟩=some (f j))
  (bA:∀(j:Nat) (d:D),cells[j]? =some d→RepD M w d (f j)):RepD M w (.ept cells) (.pointer (some ⟨b,off,none⟩))
 |agg (cells:List D) (vs:List Value) (hl:cells.length=vs.length) (h1:∀d∈cells,d.one=true)
  (bA:∀(j:Nat) (d:D) (x:Value),cells[j]? =some d→vs[j]? =some x→RepD M w d x):RepD M w (.agg cells) (.agg vs.toArray)
 |tup (ds:List D) (vs:List Value) (hl:ds.length=vs.length)
  (bA:∀(j:Nat) (d:D) (x:Value),ds[j]? =some d→vs[j]? =some x→RepD M w d x):RepD M w (.tup ds) (.tuple vs.toArray)
 |clo (g:Nat) (caps:List D) (vs:List Value) (hl:caps.length=vs.length)
  (bA:∀(j:Nat) (d:D) (x:Value),caps[j]? =some d→vs[j]? =some x→RepD M w d x):RepD M w (.clo g caps) (.func (.func g) #[] vs.toArray)
 |nei (t:TypeId) (x:Value):RepD M w .nei (.iface t x)
structure Keep (M:Nat→Prop)(w:World)(M':Nat→Prop)(w':World):Prop where
 size:w.heap.size≤w'.heap.size
 block:∀b,b < w.heap.size→¬M b→w'.heap[b]? =w.heap[b]?
 mu:∀b,b < w.heap.size→M' b→M b
theorem Keep.refl (M:Nat→Prop)(w:World):Keep M w M w:=⟨XB _,fun _ _ _=>rfl,fun _ _ h=>h⟩
theorem Keep.ext {M:Nat→Prop}{w w':World}(h:dA w w')(hM:∀b,M b→b < w.heap.size):Keep M w M w':=⟨h.size,fun b hb _=>h.block b hb,fun _ _ h=>h⟩
theorem RepD.keep {M M':Nat→Prop}{w w':World}(hk:Keep M w M' w'){d:D}{x:Value}(h:RepD M w d x):RepD M' w' d x:=by
 induction h with
 |v x=>exact .v x
 |nil sz ao cap hm=>exact .nil sz ao cap hm
 |sl sz rows b off cap f hM hb hc hm hr h1 dC bA ih=>
  refine .sl sz rows b off cap f (fun h=>hM (hk.mu b hb h)) (Yy hb hk.size) hc hm hr h1 (fun i j hi hj=>?_) ih;rw[←dC i j hi hj];exact Zl (a:=⟨b,off+i*sz+j,none⟩) (hk.block b hb hM)
 |ept cells b off f hM hb h1 dC bA ih=>
  refine .ept cells b off f (fun h=>hM (hk.mu b hb h)) (Yy hb hk.size) h1 (fun j hj=>?_) ih;rw[←dC j hj];exact Zl (a:=⟨b,off+j,none⟩) (hk.block b hb hM)
 |agg cells vs hl h1 bA ih=>exact .agg cells vs hl h1 ih
 |tup ds vs hl bA ih=>exact .tup ds vs hl ih
 |clo g caps vs hl bA ih=>exact .clo g caps vs hl ih
 |nei t x=>exact .nei t x
theorem RepD.one {M:Nat→Prop}{w:World}{d:D}{x:Value}(h:RepD M w d x)(h1:d.one=true):x.oneCell'=true:=by
 cases h<;>first|rfl|exact h1|(simp[D.one]at h1)
def SC:List (Nat × (Array Value→Prop)):=[]
def Ek (M:Nat→Prop)(w:World):Prop:=∀x∈SC,¬M x.1∧∃vs E sp,w.heap[x.1]? =some (.cells vs E sp)∧x.2 vs
theorem Ek.keep {M M':Nat→Prop}{w w':World}(h:Ek M w)(hk:Keep M w M' w'):Ek M' w':=fun x hx=>by
 obtain⟨h1,vs,E,sp,h2,h3⟩:=h x hx;have hlt:x.1 < w.heap.size:=(Ys.1 h2).1;exact⟨fun hm=>h1 (hk.mu _ hlt hm),vs,E,sp,(hk.block _ hlt h1).trans h2,h3⟩
inductive PV where
 |d (x:D)
 |any
 |ptr (k off:Nat)
 |own (k g:Nat)
 |rp (k g sz i j:Nat)
 |osl (k g sz a n:Nat)
 |clo (g:Nat) (caps:List PV)
 |agg (cells:List PV)
 |tup (vs:List PV)
 |mref (k:Nat)
def PV.one:PV→Bool
 | .d x=>x.one
 | .any=>false
 | .agg _=>false
 | .tup _=>false
 |_=>true
def fr:Value→Option Nat
 | .slice (some a) _ (_+1)=>some a.block
 |_=>none
inductive OwnV (w:World) (E sz:Nat):Value→Nat→List Value→Prop
 |nil:OwnV w E sz (.slice none 0 0) 0 []
 |zero (a:Addr):OwnV w E sz (.slice (some a) 0 0) 0 []
 |row (g n cap:Nat) (cur:Array Value) (xs:List Value) (h0:0 < cap) (hh:w.heap[g]? =some (.cells cur E (0,0))) (hn:n≤cap) (hm:cap≤maxLen) (hs:cur.size=cap*sz) (hl:xs.length=n*sz) (ht:cur.toList.take (n*sz)=xs):
  OwnV w E sz (.slice (some ⟨g,0,none⟩) n cap) n xs
theorem OwnV.one {w:World}{E sz:Nat}{v:Value}{n:Nat}{xs:List Value}(h:OwnV w E sz v n xs):v.oneCell'=true:=by cases h<;>rfl
theorem OwnV.len {w:World}{E sz:Nat}{v:Value}{n:Nat}{xs:List Value}(h:OwnV w E sz v n xs):xs.length=n*sz:=by
 cases h with
 |nil=>simp
 |zero=>simp
 |row g n cap cur xs h0 hh hn hm hs hl ht=>exact hl
theorem OwnV.lt {w:World}{E sz:Nat}{v:Value}{n:Nat}{xs:List Value}(h:OwnV w E sz v n xs){b:Nat}(hb:fr v=some b):b < w.heap.size:=by
 cases h with
 |nil=>cases hb
 |zero=>cases hb
 |row g n cap cur xs h0 hh hn hm hs hl ht=>
  obtain⟨cap,rfl⟩:∃c,cap=c+1:=⟨cap - 1,by omega⟩;simp only[fr,XX.injEq]at hb;subst hb;rcases XP g w.heap.size with hl|hl
  ·exact hl
  ·rw[YM hl]at hh;cases hh
theorem OwnV.same {w w':World}{E sz:Nat}{v:Value}{n:Nat}{xs:List Value}(h:OwnV w E sz v n xs)(hb:∀b,fr v=some b→w'.heap[b]? =w.heap[b]?):OwnV w' E sz v n xs:=by
 cases h with
 |nil=>exact .nil
 |zero a=>exact .zero a
 |row g n cap cur xs h0 hh hn hm hs hl ht=>
  refine .row g n cap cur xs h0 ?_ hn hm hs hl ht;rw[hb g (by obtain⟨cap,rfl⟩:∃c,cap=c+1:=⟨cap - 1,by omega⟩;rfl)];exact hh
structure Cx where
 M:Nat→Prop
 bl:Nat→Option Nat
 ov:Nat→Nat→Option Value
inductive RepP (c:Cx) (w:World):PV→Value→Prop
 |d (x:D) (v:Value) (h:RepD c.M w x v):RepP c w (.d x) v
 |any (v:Value):RepP c w .any v
 |ptr (k off b:Nat) (h:c.bl k=some b):RepP c w (.ptr k off) (.pointer (some ⟨b,off,none⟩))
 |own (k g:Nat) (v:Value) (h:c.ov k g=some v) (h1:v.oneCell'=true):RepP c w (.own k g) v
 |rp (k g sz i j b n cap:Nat) (h:c.ov k g=some (.slice (some ⟨b,0,none⟩) n cap)):RepP c w (.rp k g sz i j) (.pointer (some ⟨b,i*sz+j,none⟩))
 |osl (k g sz a n b o N cap:Nat) (h:c.ov k g=some (.slice (some ⟨b,0,none⟩) N cap)) (hn:a+n≤N) (hc:N≤cap) (ho:a < cap→o=a*sz):RepP c w (.osl k g sz a n) (.slice (some ⟨b,o,none⟩) n (cap - a))
 |clo (g:Nat) (caps:List PV) (vs:List Value) (hl:caps.length=vs.length)
  (bA:∀(j:Nat) (d:PV) (x:Value),caps[j]? =some d→vs[j]? =some x→RepP c w d x):RepP c w (.clo g caps) (.func (.func g) #[] vs.toArray)
 |agg (cells:List PV) (vs:List Value) (hl:cells.length=vs.length) (h1:∀d∈cells,d.one=true)
  (bA:∀(j:Nat) (d:PV) (x:Value),cells[j]? =some d→vs[j]? =some x→RepP c w d x):RepP c w (.agg cells) (.agg vs.toArray)
 |tup (ds:List PV) (vs:List Value) (hl:ds.length=vs.length)
  (bA:∀(j:Nat) (d:PV) (x:Value),ds[j]? =some d→vs[j]? =some x→RepP c w d x):RepP c w (.tup ds) (.tuple vs.toArray)
 |mref (k b:Nat) (h:c.bl k=some b):RepP c w (.mref k) (.map (some b))
structure Cx.le (c c':Cx):Prop where
 bl:∀k b,c.bl k=some b→c'.bl k=some b
 ov:∀k g v,c.ov k g=some v→c'.ov k g=some v
theorem Cx.le_refl (c:Cx):c.le c:=⟨fun _ _ h=>h,fun _ _ _ h=>h⟩
theorem RepP.keep {c c':Cx}{w w':World}(hc:c.le c')(hk:Keep c.M w c'.M w'){d:PV}{x:Value}(h:RepP c w d x):RepP c' w' d x:=by
 induction h with
 |d x v h=>exact .d x v (h.keep hk)
 |any v=>exact .any v
 |ptr k off b h=>exact .ptr k off b (hc.bl _ _ h)
 |own k g v h h1=>exact .own k g v (hc.ov _ _ _ h) h1
 |rp k g sz i j b n cap h=>exact .rp k g sz i j b n cap (hc.ov _ _ _ h)
 |osl k g sz a n b o N cap h hn wX ho=>exact .osl k g sz a n b o N cap (hc.ov _ _ _ h) hn wX ho
 |clo g caps vs hl bA ih=>exact .clo g caps vs hl ih
 |agg cells vs hl h1 bA ih=>exact .agg cells vs hl h1 ih
 |tup ds vs hl bA ih=>exact .tup ds vs hl ih
 |mref k b h=>exact .mref k b (hc.bl _ _ h)
theorem RepP.one {c:Cx}{w:World}{d:PV}{x:Value}(h:RepP c w d x)(h1:d.one=true):x.oneCell'=true:=by
 cases h with
 |d x v h=>exact h.one h1
 |any=>simp[PV.one]at h1
 |ptr=>rfl
 |own k g v h h2=>exact h2
 |agg=>simp[PV.one]at h1
 |tup=>simp[PV.one]at h1
 |_=>rfl
inductive Chunk where
 |none
 |gone
 |box (T:Nat) (cells:List PV)
 |row (E sz g:Nat) (rows:List (List PV))
 |mp (n:Nat) (s:Bool) (ents:List (List Int × Int))
 |it (n:Nat) (s:Bool) (ents:List (List Int × Int)) (seen:List Nat)
def ab (rows:List (List D)):List (List PV):=rows.map (·.map .d)
def jd (s:Bool)(ks:List Int):Value:=if s then .agg (ks.map (.int .i64)).toArray else .int .i64 (ks.headD 0)
def bv (s:Bool):List (List Int × Int)→Nat→List MapEntry
 |[],_=>[]
 |(k,v)::l,i=>{key:=jd s k,val:= .int .i64 v,born:=i}::bv s l (i+1)
def Cx.block (c:Cx)(k:Nat):Chunk→Option Nat
 | .box _ _=>c.bl k
 | .row _ _ g _=>(c.ov k g).bind fr
 | .mp _ _ _=>c.bl k
 | .it _ _ _ _=>c.bl k
 |_=>Option.none
def bH (c:Cx)(w:World)(ds:List PV)(vs:List Value):Prop:=ds.length=vs.length∧∀(j:Nat) (d:PV) (x:Value),ds[j]? =some d→vs[j]? =some x→RepP c w d x
def cu (M:Nat→Prop)(w:World)(ds:List D)(vs:List Value):Prop:=ds.length=vs.length∧∀(j:Nat) (d:D) (x:Value),ds[j]? =some d→vs[j]? =some x→RepD M w d x
theorem bH.keep {c c':Cx}{w w':World}(hc:c.le c')(hk:Keep c.M w c'.M w'){ds:List PV}{vs:List Value}(h:bH c w ds vs):bH c' w' ds vs:=⟨h.1,fun j d x h1 h2=>(h.2 j d x h1 h2).keep hc hk⟩
theorem cu.keep {M M':Nat→Prop}{w w':World}(hk:Keep M w M' w'){ds:List D}{vs:List Value}(h:cu M w ds vs):cu M' w' ds vs:=⟨h.1,fun j d x h1 h2=>(h.2 j d x h1 h2).keep hk⟩
inductive ChunkOK (c:Cx) (w:World) (k:Nat):Chunk→Prop
 |none (h1:c.bl k= .none) (h2:∀g,c.ov k g= .none):ChunkOK c w k .none
 |gone:ChunkOK c w k .gone
 |box (T:Nat) (cells:List PV) (b:Nat) (vs:List Value) (hb:c.bl k=some b) (hh:w.heap[b]? =some (.cells vs.toArray T (0,0))) (hr:bH c w cells vs) (h1:∀d∈cells,d.one=true):ChunkOK c w k (.box T cells)
 |row (E sz g:Nat) (rows:List (List PV)) (v:Value) (xs:List Value) (hv:c.ov k g=some v) (da:OwnV w E sz v rows.length xs) (hr:bH c w rows.flatten xs)
  (cT:∀r∈rows,r.length=sz) (h1:∀r∈rows,∀d∈r,d.one=true) (hg:∀g',g < g'→c.ov k g'= .none):ChunkOK c w k (.row E sz g rows)
 |mp (n:Nat) (s:Bool) (ents:List (List Int × Int)) (b:Nat) (hb:c.bl k=some b) (hh:w.heap[b]? =some (.map (bv s ents 0).toArray ents.length)) (hn:∀kv∈ents,kv.1.length=n):ChunkOK c w k (.mp n s ents)
 |it (n:Nat) (s:Bool) (ents:List (List Int × Int)) (seen:List Nat) (b bm:Nat) (hb:c.bl k=some b) (hh:w.heap[b]? =some (.mapIter (some bm) ents.length seen.toArray ents.length)) (hM:¬c.M bm) (hm:w.heap[bm]? =some (.map (bv s ents 0).toArray ents.length)):ChunkOK c w k (.it n s ents seen)
structure FS where
 env:Nat→PV
 heap:Nat→Chunk
structure ExtL (L:Nat→Prop)(w w':World):Prop where
 os:w'.os=w.os
 tape:w'.tape=w.tape
 output:w'.output=w.output
 size:w.heap.size≤w'.heap.size
 block:∀b,b < w.heap.size→¬L b→w'.heap[b]? =w.heap[b]?
theorem ExtL.refl (L:Nat→Prop)(w:World):ExtL L w w:=⟨rfl,rfl,rfl,XB _,fun _ _ _=>rfl⟩
theorem ExtL.trans {L:Nat→Prop}{w w' w'':World}(h:ExtL L w w')(g:ExtL L w' w''):ExtL L w w'':=
 ⟨g.os.trans h.os,g.tape.trans h.tape,g.output.trans h.output,Yz h.size g.size,fun b hb hl=>(g.block b (Yy hb h.size) hl).trans (h.block b hb hl)⟩
theorem ExtL.of_ext {L:Nat→Prop}{w w':World}(h:dA w w'):ExtL L w w':=⟨h.os,h.tape,h.output,h.size,fun b hb _=>h.block b hb⟩
theorem ExtL.ext {w w':World}(h:ExtL (fun _=>False) w w'):dA w w':=⟨h.os,h.tape,h.output,h.size,fun b hb=>h.block b hb id⟩
structure Cfg where
 P:Program
 n:Nat
 m:Nat
 w0:World
 M0:Nat→Prop
 L:Nat→Prop
 c0:Cx
structure RealC (X:Cfg)(s:FS)(a:Act)(w:World)(c:Cx):Prop where
 size:a.tmps.size=X.n
 defers:a.defers=[]
 ext:ExtL X.L X.w0 w
 inv:Ek (fun b=>X.M0 b∨X.L b) X.w0
 fresh:∀b,X.M0 b→b < X.w0.heap.size∧¬X.L b
 mu:∀b,c.M b↔X.M0 b∨∃k,c.block k (s.heap k)=some b
 new:∀k b,c.block k (s.heap k)=some b→(X.L b∨X.w0.heap.size≤b)∧b < w.heap.size
 apart:∀k k' b,c.block k (s.heap k)=some b→c.block k' (s.heap k')=some b→k=k'
 env:∀t,RepP c w (s.env t) (a.tmps.getD t undef)
 chunk:∀k,ChunkOK c w k (s.heap k)
 lent:∀k,k < X.m→c.bl k=X.c0.bl k∧∀g v,X.c0.ov k g=some v→c.ov k g=some v
theorem RealC.ginv {X:Cfg}{s:FS}{a:Act}{w:World}{c:Cx}(h:RealC X s a w c):Ek c.M w:=
 h.inv.keep ⟨h.ext.size,fun b hb hn=>h.ext.block b hb (fun hl=>hn (.inr hl)),fun b hb hm=>by
  rcases(h.mu b).1 hm with h0|⟨k,hk⟩
  ·exact .inl h0
  ·rcases(h.new k b hk).1 with h1|h1
   ·exact .inr h1
   ·omega⟩
def kk (X:Cfg)(s:FS)(a:Act)(w:World):Prop:=∃c,RealC X s a w c
structure Res where
 pv:PV
 eff:List (Nat × Chunk):=[]
 touch:List Nat:=[]
def cH:List (Nat × Chunk)→(Nat→Chunk)→Nat→Chunk
 |[],h=>h
 |(k,c)::l,h=>fun k'=>if k'=k then c else cH l h k'
def FS.put (s:FS)(dst:Option Nat)(p:PV):FS:=
 match dst with
 |some d=>{s with env:=fun t=>if t=d then p else s.env t}
 |none=>s
def FS.app (s:FS)(dst:Option Nat)(r:Res):FS:=FS.put {s with heap:=cH r.eff s.heap} dst r.pv
def bJ (X:Cfg)(ops:Array Oper)(s:FS)(o:Oper)(r:Res):Prop:=
 (∀d,o.dst=some d→d < X.n)∧(∀kc∈r.eff,kc.1∈r.touch)∧
 ∀s':FS,(∀t∈o.looksAt ops,s'.env t=s.env t)→(∀k∈r.touch,s'.heap k=s.heap k)→∀a w,kk X s' a w→
  ∀K Q,(∀v w',kk X (s'.app o.dst r) (a.put o.dst v) w'→K (a.put o.dst v) w')→Oper.wp X.P o a w K Q
structure It where
 o:Oper
 want:Bool
 res:Res
def zS (ops:Array Oper)(s:FS)(j:Nat):Option (Option Bool):=
 match (ops[j]?).bind (·.dst)with
 |none=>some none
 |some t=>match s.env t with
  | .d (.v (.bool b))=>some (some b)
  | .d (.v (.tuple _))=>some none
  |_=>none
def nR (ops:Array Oper)(s:FS)(o:Oper):Option Bool:=
 match o.guard with
 |none=>some true
 |some (j,want)=>(zS ops s j).map (·==some want)
def El:Res:={pv:= .d (.v undef)}
def JF (X:Cfg)(ops:Array Oper)(s:FS)(it:It):Prop:=
 nR ops s it.o=some it.want∧(it.want=true→bJ X ops s it.o it.res)∧(it.want=false→it.res=El∧∀d,it.o.dst=some d→d < X.n)
theorem RealC.put {X:Cfg}{s:FS}{a:Act}{w:World}{c:Cx}(h:RealC X s a w c){p:PV}{v:Value}(hp:RepP c w p v){dst:Option Nat}(hd:∀d,dst=some d→d < X.n):
 RealC X (s.put dst p) (a.put dst v) w c:=by
 cases dst with
 |none=>exact h
 |some d=>
  have hd:=hd d rfl;refine⟨by simpa[Act.put]using h.size,by simpa[Act.put]using h.defers,h.ext,h.inv,h.fresh,h.mu,h.new,h.apart,fun t=>?_,h.chunk,h.lent⟩;by_cases ht:t=d
  ·subst ht;have hs:t < a.tmps.size:=by rw[h.size];exact hd
   simp only[FS.put,Act.put,if_true,Yv,Array.getElem?_setIfInBounds,hs];simpa[hs]using hp
  ·have bB:d≠t:=fun e=>ht e.symm;have:=h.env t;simp only[FS.put,Act.put,if_neg ht,Yv,S' bB];simpa[Yv]using this
theorem RealC.bool {X:Cfg}{s:FS}{a:Act}{w:World}{c:Cx}(h:RealC X s a w c){t:Nat}{x:Value}(ht:s.env t= .d (.v x)):a.tmps.getD t undef=x:=by
 have:=h.env t;rw[ht]at this;cases this with
 |d x v h=>cases h with|v=>rfl
theorem JG {X:Cfg}{ops:Array Oper}{s:FS}{a:Act}{w:World}{o:Oper}{g:Bool}(h:kk X s a w)(hg:nR ops s o=some g):Region.wanted o (yielded ops a.tmps)=g:=by
 obtain⟨c,h⟩:=h;unfold nR at hg;unfold Region.wanted;split at hg
 ·rename_i hn;simp only[hn];exact XX.inj hg
 ·rename_i j want hj;simp only[hj];unfold zS at hg;unfold yielded;split at hg
  ·rename_i hn;rw[hn];simp at hg;simpa using hg
  ·rename_i t hn;rw[hn];split at hg
   ·rename_i b hb;have:=h.bool hb;rw[Yv]at this;cases hx:a.tmps[t]? with
    |none=>rw[hx]at this;simp[undef]at this
    |some y=>
     rw[hx]at this;simp at this;subst this;simp only[Y6,hx];simpa using hg
   ·rename_i vs hb;have:=h.bool hb;rw[Yv]at this;cases hx:a.tmps[t]? with
    |none=>simp only[Y6,hx];simpa using hg
    |some y=>
     rw[hx]at this;simp at this;subst this;simp only[Y6,hx];simpa using hg
   ·simp at hg
theorem JH {X:Cfg}{ops:Array Oper}{s s':FS}{it:It}{i:Nat}{a:Act}{w:World}{K:Act→World→Prop}{Q:Exit→Act→World→Prop}(hi:ops[i]? =some it.o)(h:JF X ops s it)
 (he:∀t∈it.o.looksAt ops,s'.env t=s.env t) (hk:∀k∈it.res.touch,s'.heap k=s.heap k) (hr:kk X s' a w)
 (hK:∀v w',kk X (s'.app it.o.dst it.res) (a.put it.o.dst v) w'→K (a.put it.o.dst v) w'):wpOp X.P ops Q i K a w:=by
 obtain⟨h1,h2,h3⟩:=h;have hg:nR ops s' it.o=some it.want:=by
  rw[←h1];unfold nR;split
  ·rfl
  ·rename_i j want hj;unfold zS;cases hd:(ops[j]?).bind (·.dst)with
   |none=>rfl
   |some t=>
    have:=he t (by simp[Oper.looksAt,hj,hd]);simp only[this]
 have hw:=JG hr hg;unfold wpOp;simp only[hi,hw];cases P7:it.want with
 |true=>
  simp only[if_true];exact .inl ((h2 P7).2.2 s' he hk a w hr K Q hK)
 |false=>
  obtain⟨qo,sX⟩:=h3 P7;simp only[YB,if_false];refine hK undef w ?_;rw[qo];obtain⟨c,hc⟩:=hr;exact⟨c,hc.put (.d _ _ (.v _)) sX⟩
def kl (X:Cfg)(ops:Array Oper):FS→Nat→List It→Prop
 |_,i,[]=>i=ops.size
 |s,i,it::its=>ops[i]? =some it.o∧JF X ops s it∧kl X ops (s.app it.o.dst it.res) (i+1) its
def r7 (s:FS)(its:List It):FS:=its.foldl (fun s it=>s.app it.o.dst it.res) s
theorem uM {X:Cfg}{ops:Array Oper}{Q:Exit→Act→World→Prop}:∀(its:List It) (s:FS) (i:Nat) (a:Act) (w:World),kl X ops s i its→kk X s a w→
 (∀a' w',kk X (r7 s its) a' w'→Q .normal a' w')→wpOps X.P ops Q (List.range' i its.length) a w
 |[],_,_,a,w,_,hr,hQ=>hQ a w hr
 |it::its,s,i,a,w,⟨hi,Ju,ht⟩,hr,hQ=>by
  rw[XA,List.range'_succ,wpOps_cons];exact JH hi Ju (fun _ _=>rfl) (fun _ _=>rfl) hr fun v w' hr'=>uM its _ _ _ _ ht hr' hQ
theorem uN {X:Cfg}{ops:Array Oper}:∀(its:List It) (s:FS) (i:Nat),kl X ops s i its→i+its.length=ops.size∧∀j it,its[j]? =some it→ops[i+j]? =some it.o∧JF X ops (r7 s (its.take j)) it
 |[],_,_,h=>⟨by simpa[kl]using h,fun j it h=>by simp at h⟩
 |it::its,s,i,⟨h1,h2,h3⟩=>by
  obtain⟨ih1,ih2⟩:=uN its _ _ h3;refine⟨by simp only[XA];omega,fun j x hj=>?_⟩;cases j with
  |zero=>
   simp at hj;subst hj;exact⟨h1,h2⟩
  |succ j=>
   have:=ih2 j x (by simpa using hj);refine⟨by rw[show i+(j+1)=i+1+j by omega];exact this.1,this.2⟩
def Em (l:List Nat)(es:List Edge):Nat:=es.foldl (fun s e=>if Region.binds .any e then s|||2 ^ e.on|||l.getD e.on 0 else s) 0
def xx (ops:Array Oper):Nat→List Nat
 |0=>[]
 |n+1=>let l:=xx ops n;l++[Em l (((ops[n]?).map (·.after.toList)).getD [])]
def nS (ops:Array Oper)(L:Nat→Bool):Prop:=∀j o,ops[j]? =some o→L j=true→∀e∈o.after.toList,Region.binds .any e=true→L e.on=true
theorem uO (l:List Nat)(i:Nat):∀(es:List Edge) (s:Nat),(es.foldl (fun s e=>if Region.binds .any e then s|||2 ^ e.on|||l.getD e.on 0 else s) s).testBit i=true→
 s.testBit i=true∨∃e∈es,Region.binds .any e=true∧(e.on=i∨(l.getD e.on 0).testBit i=true)
 |[],s,h=> .inl h
 |e::es,s,h=>by
  rw[YO]at h;rcases uO l i es _ h with h|⟨e',h1,h2⟩
  ·by_cases hb:Region.binds .any e=true
   ·rw[if_pos hb,Nat.testBit_or,Nat.testBit_or,Nat.testBit_two_pow]at h;simp only[Bool.or_eq_true,decide_eq_true_eq]at h;rcases h with (h|h)|h
    ·exact .inl h
    ·exact .inr ⟨e,by simp,hb,.inl h⟩
    ·exact .inr ⟨e,by simp,hb,.inr h⟩
   ·rw[if_neg hb]at h;exact .inl h
  ·exact .inr ⟨e',Zc _ h1,h2⟩
theorem tn (ops:Array Oper):∀n,(xx ops n).length=n
 |0=>rfl
 |n+1=>by simp[xx,tn ops n]
theorem jo {ops:Array Oper}{L:Nat→Bool}(hc:nS ops L):∀n j i,((xx ops n).getD j 0).testBit i=true→L j=true→L i=true
 |0,j,i,h,_=>by simp[xx]at h
 |n+1,j,i,h,hj=>by
  have bR:=tn ops n;simp only[xx,XK,List.getElem?_append]at h;split at h
  ·exact jo hc n j i (by simpa[XK]using h) hj
  ·rename_i hge;rcases XP n j with hnj|hnj
   ·rw[bR]at h;rw[show ([Em (xx ops n) (((ops[n]?).map (·.after.toList)).getD [])]:List Nat)[j - n]? =none by simp;omega]at h;simp at h
   ·obtain rfl:j=n:=by omega
    rw[bR,YG]at h;simp only[List.getElem?_cons_zero,YI]at h;unfold Em at h;cases ho:ops[j]? with
    |none=>simp[ho]at h
    |some o=>
     rw[ho]at h;rcases uO _ _ _ _ h with h|⟨e,h1,h2,h3⟩
     ·simp at h
     ·have he:=hc j o ho hj e (by simpa using h1) h2;rcases h3 with h3|h3
      ·rw[←h3];exact he
      ·exact jo hc j e.on i (by simpa[XK]using h3) he
def uP (ops:Array Oper)(x y:Oper)(kx ky tx ty:List Nat):Bool:=x.apart ops y&&kx.all (fun k=>!ty.contains k)&&ky.all (fun k=>!tx.contains k)
def nT (ops:Array Oper)(sm:List (List Nat × List Nat)):Bool:=
 let l:=xx ops ops.size
 (X5 ops.size).all fun j=>(X5 j).all fun i=>(l.getD j 0).testBit i||
  (match ops[i]?,ops[j]? with
   |some x,some y=>uP ops x y (sm.getD i ([],[])).1 (sm.getD j ([],[])).1 (sm.getD i ([],[])).2 (sm.getD j ([],[])).2
   |_,_=>false)
def Bn (its:List It)(s:FS)(i:Nat):FS:=match its[i]? with|some it=>s.app it.o.dst it.res|none=>s
def lY (s:FS)(its:List It)(L:Nat→Bool):FS:=((X5 its.length).filter L).foldl (Bn its) s
def ey (its:List It)(t:Nat)(i:Nat):Bool:=match its[i]? with|some it=>it.o.dst==some t|none=>false
def d7 (its:List It)(k:Nat)(i:Nat):Bool:=match its[i]? with|some it=>(it.res.eff.map (·.1)).contains k|none=>false
theorem zT {k:Nat}{h:Nat→Chunk}:∀{l:List (Nat × Chunk)},(l.map (·.1)).contains k=false→cH l h k=h k
 |[],_=>rfl
 |(k',c)::l,hn=>by
  simp only[Xm,List.contains_cons,Zm,beq_eq_false_iff_ne,ne_eq]at hn;simp only[cH,if_neg hn.1];exact zT hn.2
theorem zU {k:Nat}{h h':Nat→Chunk}:∀{l:List (Nat × Chunk)},(l.map (·.1)).contains k=true→cH l h k=cH l h' k
 |[],hn=>by simp at hn
 |(k',c)::l,hn=>by
  simp only[cH];split
  ·rfl
  ·rename_i bB;refine zU ?_;simpa[bB]using hn
theorem qw {s:FS}{dst:Option Nat}{r:Res}{t:Nat}:(s.app dst r).env t=if dst=some t then r.pv else s.env t:=by
 cases dst with
 |none=>simp[FS.app,FS.put]
 |some d=>
  simp only[FS.app,FS.put,XX.injEq];by_cases h:t=d
  ·subst h;simp
  ·rw[if_neg h,if_neg (fun e=>h e.symm)]
theorem nU {s:FS}{dst:Option Nat}{r:Res}{k:Nat}:(s.app dst r).heap k=cH r.eff s.heap k:=by
 cases dst<;>rfl
theorem qx (its:List It)(t:Nat):∀(l:List Nat) (s:FS),(l.foldl (Bn its) s).env t=((l.filter (ey its t)).foldl (Bn its) s).env t:=by
 have key:∀(l:List Nat) (s s':FS),s.env t=s'.env t→(l.foldl (Bn its) s).env t=((l.filter (ey its t)).foldl (Bn its) s').env t:=by
  intro l;induction l with
  |nil=>intro s s' h;exact h
  |cons i l ih=>
   intro s s' h;rw[YO,Zu];by_cases hw:ey its t i=true
   ·rw[if_pos hw,YO];refine ih _ _ ?_;unfold Bn;unfold ey at hw;split<;>rename_i hi<;>rw[hi]at hw
    ·rw[qw,qw,if_pos (by simpa using hw),if_pos (by simpa using hw)]
    ·cases hw
   ·rw[if_neg hw];refine ih _ _ ?_;unfold Bn;unfold ey at hw;split<;>rename_i hi<;>rw[hi]at hw
    ·rw[qw,if_neg (by simpa using hw),h]
    ·exact h
 intro l s;exact key l s s rfl
theorem oR (its:List It)(k:Nat):∀(l:List Nat) (s:FS),(l.foldl (Bn its) s).heap k=((l.filter (d7 its k)).foldl (Bn its) s).heap k:=by
 have key:∀(l:List Nat) (s s':FS),s.heap k=s'.heap k→(l.foldl (Bn its) s).heap k=((l.filter (d7 its k)).foldl (Bn its) s').heap k:=by
  intro l;induction l with
  |nil=>intro s s' h;exact h
  |cons i l ih=>
   intro s s' h;rw[YO,Zu];by_cases hw:d7 its k i=true
   ·rw[if_pos hw,YO];refine ih _ _ ?_;unfold Bn;unfold d7 at hw;split<;>rename_i hi<;>rw[hi]at hw
    ·rw[nU,nU,zU hw]
    ·cases hw
   ·rw[if_neg hw];refine ih _ _ ?_;unfold Bn;unfold d7 at hw;split<;>rename_i hi<;>rw[hi]at hw
    ·rw[nU,zT (by simpa using hw),h]
    ·exact h
 intro l s;exact key l s s rfl
theorem qy (s:FS)(its:List It):∀i,i≤its.length→r7 s (its.take i)=(X5 i).foldl (Bn its) s
 |0,_=>rfl
 |i+1,h=>by
  rw[List.range_succ,Zn,←qy s its i (by omega)];have hi:its[i]? =some its[i]:=Xk (by omega);simp only[YO,List.foldl_nil,Bn,hi,r7];rw[List.take_succ_eq_append_getElem (by omega),Zn];rfl
theorem mP {n i:Nat}(hi:i≤n){p q:Nat→Bool}(h1:∀j,j < i→p j=q j)(h2:∀j,i≤j→j < n→p j=false):(X5 n).filter p=(X5 i).filter q:=by
 obtain⟨m,rfl⟩:∃m,n=i+m:=⟨n - i,by omega⟩;rw[List.range_add,YW];have e1:(X5 i).filter p=(X5 i).filter q:=Z2 fun j hj=>h1 j (YR.1 hj);have e2:(List.map (fun x=>i+x) (X5 m)).filter p=[]:=by
  rw[Zo];intro j hj;obtain⟨x,hx,rfl⟩:=XQ.1 hj;have:=YR.1 hx;rw[h2 _ (by omega) (by omega)];simp
 rw[e1,e2,Yw]
def En (its:List It):List (List Nat × List Nat):=its.map fun it=>(it.res.eff.map (·.1),it.res.touch)
def nV (ops:Array Oper):Bool:=(X5 ops.size).all fun i=>((ops[i]?).map fun o=>o.after.toList.all fun e=>!Region.binds .any e||decide (e.on < i)).getD true
section
variable {X:Cfg}{ops:Array Oper}{s:FS}{its:List It}
structure Plan (X:Cfg)(ops:Array Oper)(s:FS)(its:List It):Prop where
 len:its.length=ops.size
 at_:∀(j:Nat) (it:It),its[j]? =some it→ops[j]? =some it.o∧JF X ops (r7 s (its.take j)) it
 ind:∀(i j:Nat) (x y:It),i < j→its[i]? =some x→its[j]? =some y→((xx ops ops.size).getD j 0).testBit i=true∨uP ops x.o y.o (x.res.eff.map (·.1)) (y.res.eff.map (·.1)) x.res.touch y.res.touch=true
 sub:∀(j:Nat) (it:It),its[j]? =some it→∀kc∈it.res.eff,kc.1∈it.res.touch
 back:∀(i:Nat) (o:Oper),ops[i]? =some o→∀e∈o.after.toList,Region.binds .any e=true→e.on < i
theorem NE (ht:kl X ops s 0 its)(hi:nT ops (En its)=true)(hb:nV ops=true):Plan X ops s its:=by
 obtain⟨h1,h2⟩:=uN its s 0 ht;simp only[XG]at h1 h2;refine⟨h1,h2,fun i j x y hij hx hy=>?_,fun j it hj kc Nq=>?_,fun i o ho e he Ta=>?_⟩
 ·have Tb:j < ops.size:=by rw[←h1];exact(Xn.1 hy).1
  unfold nT at hi;simp only[XC,YR]at hi;have:=hi j Tb i hij;rw[(h2 i x hx).1,(h2 j y hy).1]at this;simp only[En,XK,Xz,hx,hy,Ye,YI,Bool.or_eq_true]at this;simpa[XK]using this
 ·obtain⟨_,h3,h4,h5⟩:=h2 j it hj;cases hw:it.want with
  |true=>exact(h4 hw).2.1 kc Nq
  |false=>rw[(h5 hw).1]at Nq;simp[El]at Nq
 ·unfold nV at hb;simp only[XC,YR]at hb;have:=hb i (Ys.1 ho).1;rw[ho]at this;simp only[Ye,YI,XC]at this;have:=this e he;simpa[Ta]using this
def ub (listed:Array Bool):Nat→Bool:=fun j=>listed.getD j false
theorem iz {x y:Oper}{kx ky tx ty:List Nat}(h:uP ops x y kx ky tx ty=true):x.apart ops y=true∧(∀k∈kx,k∉ty)∧(∀k∈ky,k∉tx):=by
 simp only[uP,Xy,XC,Zz,List.contains_eq_mem,decide_eq_false_iff_not]at h;exact⟨h.1.1,h.1.2,h.2⟩
theorem tq {L:Nat→Bool}(hc:nS ops L){i:Nat}{o:Oper}(ho:ops[i]? =some o)(hr:∀e∈o.after,Region.binds .any e=true→L e.on=true):nS ops (fun j=>L j||j==i):=by
 intro j o' ho' hj e he hb;simp only[Bool.or_eq_true,beq_iff_eq]at hj ⊢;rcases hj with hj|hj
 ·exact .inl (hc j o' ho' hj e he hb)
 ·subst hj;rw[ho]at ho';cases ho';exact .inl (hr e (by simpa using he) hb)
theorem qz {L:Nat→Bool}(hc:nS ops L){i j:Nat}{o:Oper}(ho:ops[i]? =some o)(hr:∀e∈o.after,Region.binds .any e=true→L e.on=true)
 (hij:j≠i) (hb:((xx ops ops.size).getD i 0).testBit j=true):L j=true:=by
 have:=jo (tq hc ho hr) ops.size i j hb (by simp);simpa[hij]using this
variable (hp:Plan X ops s its)
include hp
theorem Hi {L:Nat→Bool}(hc:nS ops L){i:Nat}{it:It}(hi:its[i]? =some it)(hL:L i=false)(hr:∀e∈it.o.after,Region.binds .any e=true→L e.on=true)(t:Nat)(ht:t∈it.o.looksAt ops):
 (lY s its L).env t=(r7 s (its.take i)).env t:=by
 have dE:i < its.length:=(Xn.1 hi).1;have P8:=(hp.at_ i it hi).1;unfold lY;rw[qx its t ((X5 its.length).filter L),qy s its i (by omega),qx its t (X5 i),Zi];rw[mP (i:=i) (q:=ey its t) (by omega)]
 ·intro j hj;by_cases hw:ey its t j=true
  ·have FD:L j=true:=by
    unfold ey at hw;split at hw
    ·rename_i x hx;rcases hp.ind j i x it hj hx hi with hb|hn
     ·exact qz hc P8 hr (by omega) hb
     ·exact absurd ht ((Oper.apart_spec (iz hn).1).1 t (by simpa using hw))
    ·cases hw
   simp[hw,FD]
  ·simp at hw;simp[hw]
 ·intro j hj Tb;by_cases hw:ey its t j=true
  ·rcases XP i j with hij|hij
   ·cases FD:L j with
    |false=>simp
    |true=>
     unfold ey at hw;split at hw
     ·rename_i x hx;rcases hp.ind i j it x hij hi hx with hb|hn
      ·rw[jo hc ops.size j i hb FD]at hL;cases hL
      ·exact absurd ht ((Oper.apart_spec (iz hn).1).2.2 t (by simpa using hw))
     ·cases hw
   ·obtain rfl:j=i:=by omega
    simp[hL]
  ·simp at hw;simp[hw]
theorem Eo {L:Nat→Bool}(hc:nS ops L){i:Nat}{it:It}(hi:its[i]? =some it)(hL:L i=false)(hr:∀e∈it.o.after,Region.binds .any e=true→L e.on=true)(k:Nat)(ht:k∈it.res.touch):
 (lY s its L).heap k=(r7 s (its.take i)).heap k:=by
 have dE:i < its.length:=(Xn.1 hi).1;have P8:=(hp.at_ i it hi).1;unfold lY;rw[oR its k ((X5 its.length).filter L),qy s its i (by omega),oR its k (X5 i),Zi];rw[mP (i:=i) (q:=d7 its k) (by omega)]
 ·intro j hj;by_cases hw:d7 its k j=true
  ·have FD:L j=true:=by
    unfold d7 at hw;split at hw
    ·rename_i x hx;rcases hp.ind j i x it hj hx hi with hb|hn
     ·exact qz hc P8 hr (by omega) hb
     ·exact absurd ht ((iz hn).2.1 k (by simpa using hw))
    ·cases hw
   simp[hw,FD]
  ·simp at hw;simp[hw]
 ·intro j hj Tb;by_cases hw:d7 its k j=true
  ·rcases XP i j with hij|hij
   ·cases FD:L j with
    |false=>simp
    |true=>
     unfold d7 at hw;split at hw
     ·rename_i x hx;rcases hp.ind i j it x hij hi hx with hb|hn
      ·rw[jo hc ops.size j i hb FD]at hL;cases hL
      ·exact absurd ht ((iz hn).2.2 k (by simpa using hw))
     ·cases hw
   ·obtain rfl:j=i:=by omega
    simp[hL]
  ·simp at hw;simp[hw]
theorem JI {L:Nat→Bool}(hc:nS ops L){i:Nat}{it:It}(hi:its[i]? =some it)(hL:L i=false):
 lY s its (fun j=>L j||j==i)=(lY s its L).app it.o.dst it.res:=by
 have dE:i < its.length:=(Xn.1 hi).1;have late:∀(j:Nat) (x:It),i < j→its[j]? =some x→L j=true→uP ops it.o x.o (it.res.eff.map (·.1)) (x.res.eff.map (·.1)) it.res.touch x.res.touch=true:=by
  intro j x hij hx FD;rcases hp.ind i j it x hij hi hx with hb|hn
  ·rw[jo hc ops.size j i hb FD]at hL;cases hL
  ·exact hn
 have MA:∀t,(lY s its (fun j=>L j||j==i)).env t=((lY s its L).app it.o.dst it.res).env t:=by
  intro t;rw[qw];unfold lY;rw[qx,Zi];by_cases hw:it.o.dst=some t
  ·rw[if_pos hw];rw[mP (i:=i+1) (q:=fun j=>ey its t j&&(L j||j==i)) (by omega) (fun _ _=>rfl),List.range_succ,YW,Zn]
   ·have:(fun j=>ey its t j&&(L j||j==i)) i=true:=by simp[ey,hi,hw]
    rw[Zu,if_pos this,List.filter_nil,YO,List.foldl_nil];simp only[Bn,hi];rw[qw,if_pos hw]
   ·intro j hj Tb;cases FD:L j with
    |false=>
     have j6:(j==i)=false:=by rw[beq_eq_false_iff_ne];omega
     simp only[j6,FD,Bool.or_self,Bool.and_false]
    |true=>
     cases hx:its[j]? with
     |none=>simp[ey,hx]
     |some x=>
      have h2:=(Oper.apart_spec (iz (late j x (by omega) hx FD)).1).2.1 t hw;simp[ey,hx,h2]
  ·rw[if_neg hw,qx its t ((X5 its.length).filter L),Zi];rw[Z2 (p:=fun j=>ey its t j&&(L j||j==i)) (q:=fun j=>ey its t j&&L j)];intro j _;by_cases j6:j=i
   ·subst j6;simp[ey,hi,hw]
   ·have AZ:(j==i)=false:=by rw[beq_eq_false_iff_ne];exact j6
    simp only[AZ,Bool.or_false]
 have Tc:∀k,(lY s its (fun j=>L j||j==i)).heap k=((lY s its L).app it.o.dst it.res).heap k:=by
  intro k;rw[nU];unfold lY;rw[oR,Zi];by_cases hw:(it.res.eff.map (·.1)).contains k=true
  ·rw[mP (i:=i+1) (q:=fun j=>d7 its k j&&(L j||j==i)) (by omega) (fun _ _=>rfl),List.range_succ,YW,Zn]
   ·have:(fun j=>d7 its k j&&(L j||j==i)) i=true:=by
     simp only[d7,hi,hw];simp
    rw[Zu,if_pos this,List.filter_nil,YO,List.foldl_nil];simp only[Bn,hi];rw[nU];exact zU hw
   ·intro j hj Tb;cases FD:L j with
    |false=>
     have j6:(j==i)=false:=by rw[beq_eq_false_iff_ne];omega
     simp only[j6,FD,Bool.or_self,Bool.and_false]
    |true=>
     cases hx:its[j]? with
     |none=>simp[d7,hx]
     |some x=>
      have h2:=(iz (late j x (by omega) hx FD)).2.1 k (by simpa using hw);have h3:(x.res.eff.map (·.1)).contains k=false:=by
       cases jL:(x.res.eff.map (·.1)).contains k with
       |false=>rfl
       |true=>
        obtain⟨kc,h4,h5⟩:=XQ.1 (by simpa using jL:k∈x.res.eff.map (·.1));exact absurd (h5 ▸ hp.sub j x hx kc h4) h2
      simp only[d7,hx,h3,Bool.false_and]
  ·rw[zT (by simpa using hw),oR its k ((X5 its.length).filter L),Zi];rw[Z2 (p:=fun j=>d7 its k j&&(L j||j==i)) (q:=fun j=>d7 its k j&&L j)];intro j _;by_cases j6:j=i
   ·subst j6;have:d7 its k j=false:=by simp only[d7,hi];simpa using hw
    simp[this]
   ·have AZ:(j==i)=false:=by rw[beq_eq_false_iff_ne];exact j6
    simp only[AZ,Bool.or_false]
 generalize e1:lY s its (fun j=>L j||j==i)=x at*;generalize e2:(lY s its L).app it.o.dst it.res=y at*;cases x;cases y;simp only[FS.mk.injEq];exact⟨funext MA,funext Tc⟩
theorem Ep {listed:Array Bool}(hs:listed.size=ops.size)(hr:Region.ready .any ops listed=[]):∀j,j < ops.size→ub listed j=true:=by
 intro j;induction j using Nat.strongRecOn with
 |_ j ih=>
  intro hj;cases hl:ub listed j with
  |true=>rfl
  |false=>
   obtain⟨o,ho⟩:∃o,ops[j]? =some o:=⟨ops[j],YP hj⟩;have:j∈Region.ready .any ops listed:=by
    rw[mem_ready];refine⟨?_,o,ho,fun e he hb=>?_⟩
    ·unfold ub at hl;rw[Yv,YP (by omega)]at hl ⊢;simpa using hl
    ·have hlt:=hp.back j o ho e (by simpa using he) hb;exact ih e.on hlt (by omega)
   rw[hr]at this;cases this
theorem JJ {Q:Exit→Act→World→Prop}(hQ:∀a' w',kk X (r7 s its) a' w'→Q .normal a' w'):∀(fuel:Nat) (listed:Array Bool) (a:Act) (w:World),listed.size=ops.size→nS ops (ub listed)→
 kk X (lY s its (ub listed)) a w→((X5 ops.size).filter fun j=>!ub listed j).length≤fuel→wpAny X.P .any ops Q fuel listed a w:=by
 have fin:∀(listed:Array Bool) (a:Act) (w:World),listed.size=ops.size→kk X (lY s its (ub listed)) a w→Region.ready .any ops listed=[]→Q .normal a w:=by
  intro listed a w hs hr he;have bP:=Ep hp hs he;have:lY s its (ub listed)=r7 s its:=by
   have h1:=qy s its its.length (XB _);rw[Xt]at h1;rw[h1];unfold lY;congr 1;rw[Y0];intro j hj;exact bP j (by rw[←hp.len];exact YR.1 hj)
  rw[this]at hr;exact hQ a w hr
 intro fuel;induction fuel with
 |zero=>
  intro listed a w hs hc hr hn;have bP:∀j,j < ops.size→ub listed j=true:=by
   intro j hj;have h0:=X9 (Nat.le_zero.1 hn);rw[Zo]at h0;have:=h0 j (YR.2 hj);simpa using this
  have he:Region.ready .any ops listed=[]:=by
   rw[List.eq_nil_iff_forall_not_mem];intro j hj;rw[mem_ready]at hj;obtain⟨h1,o,ho,_⟩:=hj;have hlt:=(Ys.1 ho).1;have:=bP j hlt;unfold ub at this;rw[Yv,YP (by omega)]at this h1;simp at this h1;rw[this]at h1;cases h1
  exact⟨he,fin listed a w hs hr he⟩
 |succ fuel ih=>
  intro listed a w hs hc hr hn;refine⟨fin listed a w hs hr,fun i hi=>?_⟩;rw[mem_ready]at hi;obtain⟨h1,o,ho,bP⟩:=hi;have hlt:=(Ys.1 ho).1;have hL:ub listed i=false:=by
   unfold ub;rw[Yv,YP (by omega)]at h1 ⊢;simpa using h1
  obtain⟨it,Ju⟩:∃it,its[i]? =some it:=⟨its[i]'(by rw[hp.len];exact hlt),Xk _⟩;obtain⟨P8,bF⟩:=hp.at_ i it Ju;rw[ho]at P8;cases P8;have UT:ub (listed.setIfInBounds i true)=fun j=>ub listed j||j==i:=by
   funext j;unfold ub;by_cases j6:j=i
   ·subst j6;simp[Yv,hs,hlt]
   ·rw[getD_set_ne false (fun e=>j6 e.symm)];simp[j6]
  refine JH ho bF (Hi hp hc Ju hL bP) (Eo hp hc Ju hL bP) hr fun v w' hr'=>?_;refine ih _ _ _ (by simpa using hs) ?_ ?_ ?_
  ·rw[UT];exact tq hc ho bP
  ·rw[UT,JI hp hc Ju hL];exact hr'
  ·rw[UT];have UU:((X5 ops.size).filter fun j=>!(ub listed j||j==i)).length < ((X5 ops.size).filter fun j=>!ub listed j).length:=by
    have wY:((X5 ops.size).filter fun j=>!(ub listed j||j==i))=((X5 ops.size).filter fun j=>!ub listed j).filter (fun j=>!(j==i)):=by
     rw[Zi];exact Z2 fun j _=>by cases ub listed j<;>simp
    rw[wY];refine List.length_filter_lt_length_iff_exists.2 ⟨i,?_,by simp⟩;rw[Zt];exact⟨YR.2 hlt,by simp[hL]⟩
   show ((X5 ops.size).filter fun j=>!(ub listed j||j==i)).length≤fuel;omega
end
theorem yt (n j:Nat):ub (Y5 n false) j=false:=by
 unfold ub;rw[Yv,Array.getElem?_replicate];split<;>rfl
theorem Bo {X:Cfg}{ops:Array Oper}{s:FS}{its:List It}{Q:Exit→Act→World→Prop}{a:Act}{w:World}(hm:X.P.follows .mixedOrders=true)(id:Nat)(draw:Bool)(ht:kl X ops s 0 its)(hd:draw=true→nT ops (En its)=true∧nV ops=true)
 (hr:kk X s a w) (hQ:∀a' w',kk X (r7 s its) a' w'→Q .normal a' w'):(Code.region id ops draw).wp X.P Q a w:=by
 cases draw with
 |false=>
  refine wp_region ?_;have h1:=(uN its s 0 ht).1;have:=uM its s 0 a w ht hr hQ;rw[List.range_eq_range',←h1,XG];exact this
 |true=>
  obtain⟨hi,hb⟩:=hd rfl;refine wp_region_any hm (JJ (NE ht hi hb) hQ _ _ _ _ (by simp) ?_ ?_ ?_)
  ·intro j o ho hj;rw[yt]at hj;cases hj
  ·have:lY s its (ub (Y5 ops.size false))=s:=by
    unfold lY;have:(X5 its.length).filter (ub (Y5 ops.size false))=[]:=by
     rw[Zo];intro j _;simp[yt]
    rw[this];rfl
   rw[this];obtain⟨c,hc⟩:=hr;refine⟨c,hc.size,hc.defers,⟨hc.ext.os,hc.ext.tape,hc.ext.output,hc.ext.size,hc.ext.block⟩,hc.inv,hc.fresh,hc.mu,hc.new,hc.apart,fun t=>?_,fun k=>?_,hc.lent⟩
   ·have hk:Keep c.M w c.M {w with drawn:=w.drawn+1}:=⟨XB _,fun _ _ _=>rfl,fun _ _ h=>h⟩;exact(hc.env t).keep c.le_refl hk
   ·have hk:Keep c.M w c.M {w with drawn:=w.drawn+1}:=⟨XB _,fun _ _ _=>rfl,fun _ _ h=>h⟩;cases a9:s.heap k with
    |none=>have:=hc.chunk k;rw[a9]at this;cases this with|none h1 h2=>exact .none h1 h2
    |gone=>exact .gone
    |box T cells=>have:=hc.chunk k;rw[a9]at this;cases this with|box _ _ b vs hb hh hr h1=>exact .box T cells b vs hb hh (hr.keep c.le_refl hk) h1
    |row E sz g rows=>have:=hc.chunk k;rw[a9]at this;cases this with|row _ _ _ _ v xs hv da hr cT h1 hg=>exact .row E sz g rows v xs hv (da.same fun _ _=>rfl) (hr.keep c.le_refl hk) cT h1 hg
    |mp nB sB ents=>have:=hc.chunk k;rw[a9]at this;cases this with|mp _ _ _ b hb hh hn=>exact .mp nB sB ents b hb hh hn
    |it nB sB ents seen=>have:=hc.chunk k;rw[a9]at this;cases this with|it _ _ _ _ b bm hb hh hM hm=>exact .it nB sB ents seen b bm hb hh hM hm
  ·refine Yz (Za _ _) ?_;simp
theorem ChunkOK.keep {k:Nat}{c c':Cx}{w w':World}{ch:Chunk}(h:ChunkOK c w k ch)(hle:c.le c')(hk:Keep c.M w c'.M w')(hb:∀b,c.block k ch=some b→w'.heap[b]? =w.heap[b]?)
 (tZ:c'.bl k=c.bl k) (eh:c'.ov k=c.ov k):ChunkOK c' w' k ch:=by
 cases h with
 |none h1 h2=>exact .none (by rw[tZ];exact h1) (fun g=>by rw[eh];exact h2 g)
 |gone=>exact .gone
 |box T cells b vs co hh hr h1=>exact .box T cells b vs (by rw[tZ];exact co) (by rw[hb b co];exact hh) (hr.keep hle hk) h1
 |row E sz g rows v xs hv da hr cT h1 hg=>
  exact .row E sz g rows v xs (by rw[eh];exact hv) (da.same fun b e=>hb b (by simp[Cx.block,hv,e])) (hr.keep hle hk) cT h1 (by rw[eh];exact hg)
 |mp nB sB ents b co hh hn=>exact .mp nB sB ents b (by rw[tZ];exact co) (by rw[hb b co];exact hh) hn
 |it nB sB ents seen b bm co hh hM hm=>
  have hlt:bm < w.heap.size:=(Ys.1 hm).1;exact .it nB sB ents seen b bm (by rw[tZ];exact co) (by rw[hb b co];exact hh) (fun h=>hM (hk.mu _ hlt h)) (by rw[hk.block _ hlt hM];exact hm)
theorem RealC.lt {X:Cfg}{s:FS}{a:Act}{w:World}{c:Cx}(h:RealC X s a w c){b:Nat}(hb:c.M b):b < w.heap.size:=by
 rcases(h.mu b).1 hb with h0|⟨k,hk⟩
 ·exact Yy (h.fresh b h0).1 h.ext.size
 ·exact(h.new k b hk).2
theorem RealC.grow {X:Cfg}{s:FS}{a:Act}{w w':World}{c:Cx}(h:RealC X s a w c)(hx:dA w w'):RealC X s a w' c:=by
 have hk:Keep c.M w c.M w':=Keep.ext hx fun b hb=>h.lt hb;exact⟨h.size,h.defers,h.ext.trans (.of_ext hx),h.inv,h.fresh,h.mu,fun k b hb=>⟨(h.new k b hb).1,Yy (h.new k b hb).2 hx.size⟩,h.apart,fun t=>(h.env t).keep c.le_refl hk,
  fun k=>(h.chunk k).keep c.le_refl hk (fun b hb=>hx.block b (h.new k b hb).2) rfl rfl,h.lent⟩
theorem jp (w:World)(o:Obj):dA w (w.alloc o):=(Below.refl _ _).alloc (XB _) o
theorem jM (w:World)(o:Obj):(w.alloc o).heap[w.heap.size]? =some o:=by
 show (w.heap.push o)[w.heap.size]? =some o;simp
theorem size_alloc (w:World)(o:Obj):(w.alloc o).heap.size=w.heap.size+1:=by
 show (w.heap.push o).size=_;simp
theorem qA (k:Nat)(c:Chunk)(h:Nat→Chunk):cH [(k,c)] h=fun k'=>if k'=k then c else h k':=rfl
theorem RealC.new_chunk {X:Cfg}{s:FS}{a:Act}{w w':World}{c c':Cx}(h:RealC X s a w c){k:Nat}{ch:Chunk}(hk:s.heap k= .none)(t5:¬k < X.m)(hx:dA w w')(hle:c.le c')(tZ:∀k',k'≠k→c'.bl k'=c.bl k')(eh:∀k',k'≠k→c'.ov k'=c.ov k')
 (hM:∀b,c'.M b↔c.M b∨c'.block k ch=some b) (lj:∀b,c'.block k ch=some b→w.heap.size≤b∧b < w'.heap.size)
 (Pp:Keep c.M w c'.M w'→ChunkOK c' w' k ch):RealC X {s with heap:=cH [(k,ch)] s.heap} a w' c':=by
 have lM:Keep c.M w c'.M w':=⟨hx.size,fun b hb _=>hx.block b hb,fun b hb hm=>by
  rcases(hM b).1 hm with h1|h1
  ·exact h1
  ·have:=(lj b h1).1;omega⟩
 have cJ:∀k' ch',k'≠k→c'.block k' ch'=c.block k' ch':=by
  intro k' ch' bB;cases ch'<;>simp[Cx.block,tZ k' bB,eh k' bB]
 have db:∀k',cH [(k,ch)] s.heap k'=if k'=k then ch else s.heap k':=fun _=>rfl;refine⟨h.size,h.defers,h.ext.trans (.of_ext hx),h.inv,h.fresh,fun b=>?_,fun k' b hb=>?_,fun k' k'' b hb hb'=>?_,fun t=>(h.env t).keep hle lM,fun k'=>?_,fun k' hk'=>⟨(tZ k' (fun e=>t5 (e ▸ hk'))).trans (h.lent k' hk').1,fun g v hv=>hle.ov _ _ _ ((h.lent k' hk').2 g v hv)⟩⟩
 ·rw[hM b,h.mu b];constructor
  ·rintro ((h0|⟨k',h1⟩)|h1)
   ·exact .inl h0
   ·refine .inr ⟨k',?_⟩;have bB:k'≠k:=fun e=>by subst e;rw[hk]at h1;simp[Cx.block]at h1
    show c'.block k' (cH [(k,ch)] s.heap k')=_;rw[db,if_neg bB,cJ k' _ bB];exact h1
   ·refine .inr ⟨k,?_⟩;show c'.block k (cH [(k,ch)] s.heap k)=_;rw[db,if_pos rfl];exact h1
  ·rintro (h0|⟨k',h1⟩)
   ·exact .inl (.inl h0)
   ·simp only[db]at h1;by_cases bB:k'=k
    ·subst bB;rw[if_pos rfl]at h1;exact .inr h1
    ·rw[if_neg bB,cJ k' _ bB]at h1;exact .inl (.inr ⟨k',h1⟩)
 ·simp only[db]at hb;by_cases bB:k'=k
  ·subst bB;rw[if_pos rfl]at hb;exact⟨.inr (Yz h.ext.size (lj b hb).1),(lj b hb).2⟩
  ·rw[if_neg bB,cJ k' _ bB]at hb;exact⟨(h.new k' b hb).1,Yy (h.new k' b hb).2 hx.size⟩
 ·simp only[db]at hb hb';by_cases h1:k'=k
  ·by_cases h2:k''=k
   ·omega
   ·subst h1;rw[if_pos rfl]at hb;rw[if_neg h2,cJ k'' _ h2]at hb';have:=(lj b hb).1;have:=(h.new k'' b hb').2;omega
  ·by_cases h2:k''=k
   ·subst h2;rw[if_pos rfl]at hb';rw[if_neg h1,cJ k' _ h1]at hb;have:=(lj b hb').1;have:=(h.new k' b hb).2;omega
   ·rw[if_neg h1,cJ k' _ h1]at hb;rw[if_neg h2,cJ k'' _ h2]at hb';exact h.apart k' k'' b hb hb'
 ·simp only[db];by_cases bB:k'=k
  ·subst bB;rw[if_pos rfl];exact Pp lM
  ·rw[if_neg bB];exact(h.chunk k').keep hle lM (fun b hb=>hx.block b (h.new k' b hb).2) (tZ k' bB) (eh k' bB)
theorem RealC.new_box {X:Cfg}{s:FS}{a:Act}{w:World}{c:Cx}(h:RealC X s a w c){k:Nat}(hk:s.heap k= .none)(t5:¬k < X.m)(T:Nat)(cells:List PV)(vs:List Value)(hr:bH c w cells vs)(h1:∀d∈cells,d.one=true):
 ∃c',RealC X {s with heap:=cH [(k,.box T cells)] s.heap} a (w.alloc (.cells vs.toArray T)) c'∧RepP c' (w.alloc (.cells vs.toArray T)) (.ptr k 0) (.pointer (some ⟨w.heap.size,0,none⟩)):=by
 have a9:=h.chunk k;rw[hk]at a9;cases a9 with
 |none yd Td=>
  have hx:=jp w (.cells vs.toArray T);have co:(fun k'=>if k'=k then some w.heap.size else c.bl k') k=some w.heap.size:=if_pos rfl;refine⟨{M:=fun b=>c.M b∨b=w.heap.size,bl:=fun k'=>if k'=k then some w.heap.size else c.bl k',ov:=c.ov},?_,.ptr k 0 _ co⟩;have hle:c.le {M:=fun b=>c.M b∨b=w.heap.size,bl:=fun k'=>if k'=k then some w.heap.size else c.bl k',ov:=c.ov}:=
   ⟨fun k' b hb=>by
    have:k'≠k:=fun e=>by subst e;rw[yd]at hb;cases hb
    show (if k'=k then some w.heap.size else c.bl k')=some b;rw[if_neg this];exact hb,fun _ _ _ h=>h⟩
  refine h.new_chunk hk t5 hx hle (fun k' bB=>if_neg bB) (fun _ _=>rfl) (fun b=>?_) (fun b hb=>?_) (fun lM=>?_)
  ·simp only[Cx.block,if_true,XX.injEq];exact⟨fun h=>h.imp id Eq.symm,fun h=>h.imp id Eq.symm⟩
  ·simp only[Cx.block,if_true,XX.injEq]at hb;rw[size_alloc];omega
  ·exact .box T cells w.heap.size vs co (jM w _) (hr.keep hle lM) h1
theorem RealC.new_row {X:Cfg}{s:FS}{a:Act}{w w':World}{c:Cx}(h:RealC X s a w c){k:Nat}(hk:s.heap k= .none)(t5:¬k < X.m)(E sz:Nat)(rows:List (List PV))(v:Value)(xs:List Value)(hx:dA w w')
 (da:OwnV w' E sz v rows.length xs) (jH:∀b,fr v=some b→w.heap.size≤b) (hr:bH c w rows.flatten xs) (cT:∀r∈rows,r.length=sz) (h1:∀r∈rows,∀d∈r,d.one=true):
 ∃c',RealC X {s with heap:=cH [(k,.row E sz 0 rows)] s.heap} a w' c'∧RepP c' w' (.own k 0) v:=by
 have a9:=h.chunk k;rw[hk]at a9;have Bl:v.oneCell'=true:=da.one;cases a9 with
 |none yd Td=>
  have bF:(fun k' g=>if k'=k∧g=0 then some v else c.ov k' g) k 0=some v:=if_pos ⟨rfl,rfl⟩;have hle:c.le {M:=fun b=>c.M b∨fr v=some b,bl:=c.bl,ov:=fun k' g=>if k'=k∧g=0 then some v else c.ov k' g}:=
   ⟨fun _ _ h=>h,fun k' g u hu=>by
    have:k'≠k:=fun e=>by subst e;rw[Td]at hu;cases hu
    show (if k'=k∧g=0 then some v else c.ov k' g)=some u;rw[if_neg (fun e=>this e.1)];exact hu⟩
  have cJ:∀b,(Cx.block {M:=fun b=>c.M b∨fr v=some b,bl:=c.bl,ov:=fun k' g=>if k'=k∧g=0 then some v else c.ov k' g} k (.row E sz 0 rows)=some b)↔fr v=some b:=by
   intro b;simp[Cx.block]
  refine⟨{M:=fun b=>c.M b∨fr v=some b,bl:=c.bl,ov:=fun k' g=>if k'=k∧g=0 then some v else c.ov k' g},?_,.own k 0 v bF Bl⟩;refine h.new_chunk hk t5 hx hle (fun _ _=>rfl) (fun k' bB=>?_) (fun b=>?_) (fun b hb=>?_) (fun lM=>?_)
  ·funext g;exact if_neg (fun e=>bB e.1)
  ·rw[cJ b]
  ·rw[cJ b]at hb;exact⟨jH b hb,da.lt hb⟩
  ·refine .row E sz 0 rows v xs bF da (hr.keep hle lM) cT h1 (fun g' hg=>?_);show (if k=k∧g'=0 then some v else c.ov k g')=none;rw[if_neg (by omega)];exact Td g'
theorem RealC.turn {X:Cfg}{s:FS}{a:Act}{w w':World}{c c':Cx}(h:RealC X s a w c){k:Nat}{ch:Chunk}(hle:c.le c')(Te:c'.bl k=c.bl k)(tZ:∀k',k'≠k→c'.bl k'=c.bl k')(eh:∀k',k'≠k→c'.ov k'=c.ov k')
 (hos:w'.os=w.os) (ht:w'.tape=w.tape) (ho:w'.output=w.output) (hs:w.heap.size≤w'.heap.size) (FE:∀b,b < w.heap.size→c.block k (s.heap k)≠some b→w'.heap[b]? =w.heap[b]?)
 (hM:∀b,c'.M b↔(c.M b∧c.block k (s.heap k)≠some b)∨c'.block k ch=some b)
 (lj:∀b,c'.block k ch=some b→(c.block k (s.heap k)=some b∨w.heap.size≤b)∧b < w'.heap.size)
 (Pp:Keep c.M w c'.M w'→ChunkOK c' w' k ch):RealC X {s with heap:=cH [(k,ch)] s.heap} a w' c':=by
 have own:∀b,c.block k (s.heap k)=some b→c.M b:=fun b hb=>(h.mu b).2 (.inr ⟨k,hb⟩);have lM:Keep c.M w c'.M w':=⟨hs,fun b hb hm=>FE b hb (fun e=>hm (own b e)),fun b hb hm=>by
  rcases(hM b).1 hm with h1|h1
  ·exact h1.1
  ·rcases(lj b h1).1 with h2|h2
   ·exact own b h2
   ·omega⟩
 have cJ:∀k' ch',k'≠k→c'.block k' ch'=c.block k' ch':=by
  intro k' ch' bB;cases ch'<;>simp[Cx.block,tZ k' bB,eh k' bB]
 have db:∀k',cH [(k,ch)] s.heap k'=if k'=k then ch else s.heap k':=fun _=>rfl;have oldNe:∀k' b,k'≠k→c.block k' (s.heap k')=some b→c.block k (s.heap k)≠some b:=fun k' b bB hb e=>bB (h.apart k' k b hb e);refine⟨h.size,h.defers,⟨hos.trans h.ext.os,ht.trans h.ext.tape,ho.trans h.ext.output,Yz h.ext.size hs,fun b hb Nr=>?_⟩,h.inv,h.fresh,fun b=>?_,fun k' b hb=>?_,fun k' k'' b hb hb'=>?_,fun t=>(h.env t).keep hle lM,fun k'=>?_,fun k' hk'=>⟨?_,fun g v hv=>hle.ov _ _ _ ((h.lent k' hk').2 g v hv)⟩⟩
 ·refine(FE b (Yy hb h.ext.size) (fun e=>?_)).trans (h.ext.block b hb Nr);rcases(h.new k b e).1 with h1|h1
  ·exact Nr h1
  ·omega
 ·rw[hM b];constructor
  ·rintro (⟨h0,bB⟩|h1)
   ·rcases(h.mu b).1 h0 with h0|⟨k',h1⟩
    ·exact .inl h0
    ·refine .inr ⟨k',?_⟩;have io:k'≠k:=fun e=>by subst e;exact bB h1
     show c'.block k' (cH [(k,ch)] s.heap k')=_;rw[db,if_neg io,cJ k' _ io];exact h1
   ·refine .inr ⟨k,?_⟩;show c'.block k (cH [(k,ch)] s.heap k)=_;rw[db,if_pos rfl];exact h1
  ·rintro (h0|⟨k',h1⟩)
   ·refine .inl ⟨(h.mu b).2 (.inl h0),fun e=>?_⟩;rcases(h.new k b e).1 with h1|h1
    ·exact(h.fresh b h0).2 h1
    ·have:=(h.fresh b h0).1;omega
   ·simp only[db]at h1;by_cases bB:k'=k
    ·subst bB;rw[if_pos rfl]at h1;exact .inr h1
    ·rw[if_neg bB,cJ k' _ bB]at h1;exact .inl ⟨(h.mu b).2 (.inr ⟨k',h1⟩),oldNe k' b bB h1⟩
 ·simp only[db]at hb;by_cases bB:k'=k
  ·subst bB;rw[if_pos rfl]at hb;refine⟨?_,(lj b hb).2⟩;rcases(lj b hb).1 with h2|h2
   ·exact(h.new _ b h2).1
   ·exact .inr (Yz h.ext.size h2)
  ·rw[if_neg bB,cJ k' _ bB]at hb;exact⟨(h.new k' b hb).1,Yy (h.new k' b hb).2 hs⟩
 ·simp only[db]at hb hb';by_cases h1:k'=k
  ·by_cases h2:k''=k
   ·omega
   ·subst h1;rw[if_pos rfl]at hb;rw[if_neg h2,cJ k'' _ h2]at hb';rcases(lj b hb).1 with h3|h3
    ·exact absurd h3 (oldNe k'' b h2 hb')
    ·have:=(h.new k'' b hb').2;omega
  ·by_cases h2:k''=k
   ·subst h2;rw[if_pos rfl]at hb';rw[if_neg h1,cJ k' _ h1]at hb;rcases(lj b hb').1 with h3|h3
    ·exact absurd h3 (oldNe k' b h1 hb)
    ·have:=(h.new k' b hb).2;omega
   ·rw[if_neg h1,cJ k' _ h1]at hb;rw[if_neg h2,cJ k'' _ h2]at hb';exact h.apart k' k'' b hb hb'
 ·simp only[db];by_cases bB:k'=k
  ·subst bB;rw[if_pos rfl];exact Pp lM
  ·rw[if_neg bB];exact(h.chunk k').keep hle lM (fun b hb=>FE b (h.new k' b hb).2 (oldNe k' b bB hb)) (tZ k' bB) (eh k' bB)
 ·by_cases bB:k'=k
  ·subst bB;exact Te.trans (h.lent k' hk').1
  ·exact(tZ k' bB).trans (h.lent k' hk').1
theorem RealC.set_box {X:Cfg}{s:FS}{a:Act}{w:World}{c:Cx}(h:RealC X s a w c){k T b:Nat}{cells cells':List PV}{vs vs':List Value}(hk:s.heap k= .box T cells)(hb:c.bl k=some b)(hh:w.heap[b]? =some (.cells vs.toArray T (0,0)))
 (hr:bH c w cells' vs') (h1:∀d∈cells',d.one=true):RealC X {s with heap:=cH [(k,.box T cells')] s.heap} a (w.setRow b vs'.toArray) c:=by
 have cT:(w.setRow b vs'.toArray).heap.size=w.heap.size:=by simp[ZE]
 have bB:∀b',b'≠b→(w.setRow b vs'.toArray).heap[b']? =w.heap[b']? :=by
  intro b' hb';simp only[ZE,Y9];rw[if_neg (fun e=>hb' e.symm)]
 have cJ:c.block k (s.heap k)=some b:=by rw[hk];exact hb
 refine h.turn c.le_refl rfl (fun _ _=>rfl) (fun _ _=>rfl) rfl rfl rfl (by omega) (fun b' _ hb'=>bB b' (fun e=>hb' (by rw[e];exact cJ))) (fun b'=>?_) (fun b' hb'=>?_) (fun lM=>?_)
 ·show c.M b'↔(c.M b'∧c.block k (s.heap k)≠some b')∨c.bl k=some b';rw[cJ,hb];constructor
  ·intro hm;by_cases e:b=b'
   ·exact .inr (by rw[e])
   ·exact .inl ⟨hm,fun h=>e (XX.inj h)⟩
  ·rintro (⟨hm,_⟩|e)
   ·exact hm
   ·exact(h.mu b').2 (.inr ⟨k,by rw[cJ];exact e⟩)
 ·have e:c.bl k=some b':=hb';refine⟨.inl (by rw[cJ,←hb];exact e),?_⟩;rw[cT];exact(h.new k b' (by rw[cJ,←hb];exact e)).2
 ·exact .box T cells' b vs' hb (setRow_heap w b _ _ T _ hh) (hr.keep c.le_refl lM) h1
structure OneB (w w':World)(r:Option Nat):Prop where
 os:w'.os=w.os
 tape:w'.tape=w.tape
 output:w'.output=w.output
 size:w.heap.size≤w'.heap.size
 block:∀b,b < w.heap.size→r≠some b→w'.heap[b]? =w.heap[b]?
theorem RealC.set_row {X:Cfg}{s:FS}{a:Act}{w w':World}{c:Cx}(h:RealC X s a w c){k E sz g:Nat}{rows rows':List (List PV)}{v v':Value}{xs':List Value}(hk:s.heap k= .row E sz g rows)(hv:c.ov k g=some v)
 (hg:OneB w w' (fr v)) (da:OwnV w' E sz v' rows'.length xs') (jH:fr v'=fr v∨∀b,fr v'=some b→w.heap.size≤b) (hr:bH c w rows'.flatten xs') (cT:∀r∈rows',r.length=sz)
 (h1:∀r∈rows',∀d∈r,d.one=true):
 ∃c',RealC X {s with heap:=cH [(k,.row E sz (g+1) rows')] s.heap} a w' c'∧RepP c' w' (.own k (g+1)) v':=by
 have a9:=h.chunk k;rw[hk]at a9;have Bl:v'.oneCell'=true:=da.one;cases a9 with
 |row _ _ _ _ u xs hu Tf hro UV h1o Ns=>
  rw[hv]at hu;cases hu;have cJ:c.block k (s.heap k)=fr v:=by rw[hk];simp[Cx.block,hv]
  have bF:(fun k' g'=>if k'=k∧g'=g+1 then some v' else c.ov k' g') k (g+1)=some v':=if_pos ⟨rfl,rfl⟩;have hle:c.le {M:=fun b=>(c.M b∧fr v≠some b)∨fr v'=some b,bl:=c.bl,ov:=fun k' g'=>if k'=k∧g'=g+1 then some v' else c.ov k' g'}:=
   ⟨fun _ _ h=>h,fun k' g' u hu=>by
    have:¬(k'=k∧g'=g+1):=by
     rintro⟨rfl,rfl⟩;rw[Ns (g+1) (by omega)]at hu;cases hu
    show (if k'=k∧g'=g+1 then some v' else c.ov k' g')=some u;rw[if_neg this];exact hu⟩
  have DP:∀b,(Cx.block {M:=fun b=>(c.M b∧fr v≠some b)∨fr v'=some b,bl:=c.bl,ov:=fun k' g'=>if k'=k∧g'=g+1 then some v' else c.ov k' g'} k (.row E sz (g+1) rows')=some b)↔fr v'=some b:=by
   intro b;simp[Cx.block]
  refine⟨{M:=fun b=>(c.M b∧fr v≠some b)∨fr v'=some b,bl:=c.bl,ov:=fun k' g'=>if k'=k∧g'=g+1 then some v' else c.ov k' g'},?_,.own k (g+1) v' bF Bl⟩;refine h.turn hle rfl (fun _ _=>rfl) (fun k' bB=>?_) hg.os hg.tape hg.output hg.size (fun b hb bB=>hg.block b hb (fun e=>bB (by rw[cJ];exact e))) (fun b=>?_) (fun b hb=>?_) (fun lM=>?_)
  ·funext g';exact if_neg (fun e=>bB e.1)
  ·rw[DP,cJ]
  ·rw[DP]at hb;refine⟨?_,da.lt hb⟩;rw[cJ];rcases jH with e|e
   ·exact .inl (e ▸ hb)
   ·exact .inr (e b hb)
  ·refine .row E sz (g+1) rows' v' xs' bF da (hr.keep hle lM) cT h1 (fun g' hg'=>?_);show (if k=k∧g'=g+1 then some v' else c.ov k g')=none;rw[if_neg (by omega)];exact Ns g' (by omega)
theorem RealC.put_row {X:Cfg}{s:FS}{a:Act}{w w':World}{c:Cx}(h:RealC X s a w c){k E sz g:Nat}{rows rows':List (List PV)}{v:Value}{xs':List Value}(hk:s.heap k= .row E sz g rows)(hv:c.ov k g=some v)
 (hg:OneB w w' (fr v)) (da:OwnV w' E sz v rows'.length xs') (hr:bH c w rows'.flatten xs') (cT:∀r∈rows',r.length=sz) (h1:∀r∈rows',∀d∈r,d.one=true):
 RealC X {s with heap:=cH [(k,.row E sz g rows')] s.heap} a w' c:=by
 have a9:=h.chunk k;rw[hk]at a9;cases a9 with
 |row _ _ _ _ u xs hu Tf hro UV h1o Ns=>
  rw[hv]at hu;cases hu;have cJ:c.block k (s.heap k)=fr v:=by rw[hk];simp[Cx.block,hv]
  have DP:c.block k (.row E sz g rows')=fr v:=by simp[Cx.block,hv]
  refine h.turn c.le_refl rfl (fun _ _=>rfl) (fun k' bB=>rfl) hg.os hg.tape hg.output hg.size (fun b hb bB=>hg.block b hb (fun e=>bB (by rw[cJ];exact e))) (fun b=>?_) (fun b hb=>?_) (fun lM=>?_)
  ·rw[DP,cJ];constructor
   ·intro hm;by_cases e:fr v=some b
    ·exact .inr e
    ·exact .inl ⟨hm,e⟩
   ·rintro (⟨hm,_⟩|e)
    ·exact hm
    ·exact(h.mu b).2 (.inr ⟨k,by rw[cJ];exact e⟩)
  ·rw[DP]at hb;exact⟨.inl (by rw[cJ];exact hb),da.lt hb⟩
  ·exact .row E sz g rows' v xs' hv da (hr.keep c.le_refl lM) cT h1 Ns
structure TI where
 agg:Bool
 size:Nat
 bytes:Nat
 zero:List Value
 fields:List (Nat × Nat)
 elem:Option Nat
 int:Option IntKind
 kind:Nat
 mp:Option (Nat × Bool)
 arr:Option (Nat × Nat):=none
def lZ (P:Program)(fs:List Field):Option (List (Nat × Nat)):=fs.mapM fun f=>(P.info? f.type).map fun i=>(f.offset,i.size)
def qB (P:Program):TypeDesc→List (Nat × Nat)
 | .struct fs=>(lZ P fs.toList).getD []
 |_=>[]
def NF:TypeDesc→Bool
 | .struct _=>true
 | .array _ _=>true
 |_=>false
def gq:TypeDesc→Option Nat
 | .slice e=>some e
 |_=>none
def JK:TypeDesc→Option (Nat × Nat)
 | .array n e=>some (n,e)
 |_=>none
def NG:TypeDesc→Option IntKind
 | .int k=>some k
 |_=>none
def px:TypeDesc→Nat
 | .bool=>1
 | .string=>2
 | .pointer _=>3
 | .map _ _=>4
 | .interface _=>5
 |_=>0
def Wk (P:Program):TypeDesc→Option (Nat × Bool)
 | .map k e=>match P.underlying k,P.info? k,P.underlying e with
  |some (.int .i64),_,some (.int .i64)=>some (1,false)
  |some (.struct _),some i,some (.int .i64)=>some (i.size,true)
  |_,_,_=>none
 |_=>none
def aU (P:Program)(t:Nat):Option TI:=
 match P.info? t,P.underlying t with
 |some i,some d=>
  match i.zero with
  |some z=>
   if z.cells.all (·.oneCell')&&(z.cells.size==i.size)then
    some {agg:=NF d,size:=i.size,bytes:=i.bytes,zero:=z.cells.toList,fields:=qB P d,elem:=gq d,int:=NG d,kind:=px d,mp:=Wk P d,arr:=JK d}
   else none
  |none=>none
 |_,_=>none
structure TCk (P:Program)(t:Nat)(ti:TI)(i:TypeInfo)(d:TypeDesc)(z:Value):Prop where
 info:P.info? t=some i
 und:P.underlying t=some d
 zero:i.zero=some z
 zcells:z.cells.toList=ti.zero
 one:∀x∈ti.zero,x.oneCell'=true
 zsize:ti.zero.length=ti.size
 size:i.size=ti.size
 bytes:i.bytes=ti.bytes
 agg:NF d=ti.agg
 elem:gq d=ti.elem
 int:NG d=ti.int
 kind:px d=ti.kind
 mp:Wk P d=ti.mp
 arr:JK d=ti.arr
 fields:qB P d=ti.fields
theorem iq {P:Program}{t:Nat}{ti:TI}(h:aU P t=some ti):∃i d z,TCk P t ti i d z:=by
 unfold aU at h;split at h
 ·rename_i i d hi hd;split at h
  ·rename_i z hz;split at h
   ·rename_i hc;simp only[Xy,beq_iff_eq]at hc;cases h;refine⟨i,d,z,hi,hd,hz,rfl,fun x hx=>?_,?_,rfl,rfl,rfl,rfl,rfl,rfl,rfl,rfl,rfl⟩
    ·exact(Array.all_eq_true_iff_forall_mem.1 hc.1) x (by simpa using hx)
    ·simpa using hc.2
   ·cases h
  ·cases h
 ·cases h
theorem yu {P:Program}{off sz:Nat}:∀{l:List Field}{pl:List (Nat × Nat)},lZ P l=some pl→∀{f:Nat},pl[f]? =some (off,sz)→∃(g:Field) (j:TypeInfo),l[f]? =some g∧P.info? g.type=some j∧g.offset=off∧j.size=sz
 |[],pl,h,f,hf=>by simp[lZ]at h;subst h;simp at hf
 |g::l,pl,h,f,hf=>by
  simp only[lZ,List.mapM_cons,Option.bind_eq_bind,Option.pure_def]at h;cases hi:P.info? g.type with
  |none=>simp[hi]at h
  |some i=>
   cases hr:l.mapM (fun f=>(P.info? f.type).map fun i=>(f.offset,i.size))with
   |none=>simp[hi,hr]at h
   |some rest=>
    simp[hi,hr]at h;subst h;cases f with
    |zero=>simp at hf;exact⟨g,i,rfl,hi,hf.1,hf.2⟩
    |succ f=>simpa using yu (l:=l) hr (f:=f) (by simpa using hf)
theorem TCk.field {P:Program}{t:Nat}{ti:TI}{i:TypeInfo}{d:TypeDesc}{z:Value}(h:TCk P t ti i d z){f off sz:Nat}(hf:ti.fields[f]? =some (off,sz)):
 ∃(fs:Array Field) (g:Field) (j:TypeInfo),d= .struct fs∧lZ P fs.toList=some ti.fields∧fs[f]? =some g∧P.info? g.type=some j∧g.offset=off∧j.size=sz:=by
 have gY:=h.fields;cases d with
 |struct fs=>
  simp only[qB]at gY;cases hm:lZ P fs.toList with
  |none=>rw[hm]at gY;simp at gY;rw[gY]at hf;simp at hf
  |some pl=>
   rw[hm]at gY;simp at gY;subst gY;obtain⟨g,j,q1,q2⟩:=yu hm hf;exact⟨fs,g,j,rfl,hm,by simpa using q1,q2⟩
 |_=>simp[qB]at gY;rw[gY]at hf;simp at hf
def ev (s:FS):Operand→PV
 | .tmp t=>s.env t
 | .const v=> .d (.v v)
 | .func f=> .d (.clo f [])
 | .global _=> .any
theorem bM {X:Cfg}{s:FS}{a:Act}{w:World}{c:Cx}(h:RealC X s a w c)(x:Operand):RepP c w (ev s x) (a.eval x):=by
 cases x with
 |tmp t=>exact h.env t
 |const v=>exact .d _ _ (.v v)
 |func f=>exact .d _ _ (.clo f [] [] rfl (fun j d x h=>by simp at h))
 |«global» g=>exact .any _
theorem zV {ops:Array Oper}{o:Oper}{s s':FS}(he:∀t∈o.looksAt ops,s'.env t=s.env t)(x:Operand)(hx:x∈o.op.operands):ev s' x=ev s x:=by
 cases x with
 |tmp t=>
  refine he t ?_;unfold Oper.looksAt;refine ZP _ ?_;rw[List.mem_filterMap];exact⟨.tmp t,by simpa using hx,rfl⟩
 |_=>rfl
theorem d6 {X:Cfg}{ops:Array Oper}{s:FS}{o:Oper}{r:Res}(hd:∀d,o.dst=some d→d < X.n)(ht:∀kc∈r.eff,kc.1∈r.touch)
 (h:∀s':FS,(∀x∈o.op.operands,ev s' x=ev s x)→(∀k∈r.touch,s'.heap k=s.heap k)→∀a w c,RealC X s' a w c→
  ∃n v w',(execOp a.eval o).run X.P w= .ok n w'∧(n= .value v∨(n= .skip∧v=undef))∧∃c',RealC X {s' with heap:=cH r.eff s'.heap} a w' c'∧RepP c' w' r.pv v):bJ X ops s o r:=by
 refine⟨hd,ht,fun s' he hk a w hr K Q hK=>?_⟩;obtain⟨c,hc⟩:=hr;obtain⟨n,v,w',ct,hn,c',hc',hp⟩:=h s' (fun x hx=>zV he x hx) hk a w c hc;have:=hK v w' ⟨c',hc'.put hp hd⟩;unfold Oper.wp;rw[ct];rcases hn with rfl|⟨rfl,rfl⟩
 ·exact this
 ·exact this
theorem aM {X:Cfg}{ops:Array Oper}{s:FS}{o:Oper}{p:PV}{touch:List Nat}(hd:∀d,o.dst=some d→d < X.n)
 (h:∀s':FS,(∀x∈o.op.operands,ev s' x=ev s x)→(∀k∈touch,s'.heap k=s.heap k)→∀a w c,RealC X s' a w c→∃v,(execOp a.eval o).run X.P w= .ok (.value v) w∧RepP c w p v):
 bJ X ops s o {pv:=p,touch:=touch}:=
 d6 hd (fun _ h=>by simp at h) fun s' he hk a w c hc=>by
  obtain⟨v,ct,hp⟩:=h s' he hk a w c hc;exact⟨.value v,v,w,ct,.inl rfl,c,hc,hp⟩
section
variable {X:Cfg}{ops:Array Oper}{s:FS}{o:Oper}(hd:∀d,o.dst=some d→d < X.n)
include hd
theorem NH {x:Operand}(ho:o.op= .move x):bJ X ops s o {pv:=ev s x}:=
 aM hd fun s' he _ a w c hc=>⟨a.eval x,by simp[execOp,ho],by rw[←he x (by simp[ho,Op.operands])];exact bM hc x⟩
theorem Hj {x:Operand}(ho:o.op= .assign x):bJ X ops s o {pv:=ev s x}:=
 aM hd fun s' he _ a w c hc=>⟨a.eval x,by simp[execOp,ho],by rw[←he x (by simp[ho,Op.operands])];exact bM hc x⟩
omit hd in
theorem df {s':FS}{a:Act}{w:World}{c:Cx}(hc:RealC X s' a w c){x:Operand}{v:Value}(h:ev s' x= .d (.v v)):a.eval x=v:=by
 have:=bM hc x;rw[h]at this;cases this with
 |d _ _ h=>cases h with|v=>rfl
theorem NI {x y z:Operand}{t:Bool}(ho:o.op= .pick x y z)(hx:ev s x= .d (.v (.bool t))):bJ X ops s o {pv:=if t then ev s y else ev s z}:=
 aM hd fun s' he _ a w c hc=>by
  have h1:=df hc ((he x (by simp[ho,Op.operands])).trans hx);refine⟨if t then a.eval y else a.eval z,by simp[execOp,ho,h1,asBool],?_⟩;cases t with
  |true=>rw[if_pos rfl,if_pos rfl,←he y (by simp[ho,Op.operands])];exact bM hc y
  |false=>rw[if_neg (by simp),if_neg (by simp),←he z (by simp[ho,Op.operands])];exact bM hc z
theorem Qs {t:Nat}{x:Operand}{b:Bool}(ho:o.op= .unOp .not t x)(hx:ev s x= .d (.v (.bool b))):bJ X ops s o {pv:= .d (.v (.bool (!b)))}:=
 aM hd fun s' he _ a w c hc=>by
  have h1:=df hc ((he x (by simp[ho,Op.operands])).trans hx);exact⟨.bool (!b),by simp[execOp,ho,h1,Op.unary],.d _ _ (.v _)⟩
theorem Qt {t:Nat}{x:Operand}{k:IntKind}{n:Int}(ho:o.op= .unOp .neg t x)(hx:ev s x= .d (.v (.int k n))):bJ X ops s o {pv:= .d (.v (.int k (k.wrap (0 - n))))}:=
 aM hd fun s' he _ a w c hc=>by
  have h1:=df hc ((he x (by simp[ho,Op.operands])).trans hx);exact⟨.int k (k.wrap (0 - n)),by simp[execOp,ho,h1,Op.unary,Op.intArith],.d _ _ (.v _)⟩
theorem tr {x:Operand}(ho:o.op= .nilCheck x)(hx:(∃k off,ev s x= .ptr k off)∨∃cs,ev s x= .d (.ept cs)):bJ X ops s o {pv:=ev s x}:=
 aM hd fun s' he _ a w c hc=>by
  have h0:=he x (by simp[ho,Op.operands]);have h1:=bM hc x;refine⟨a.eval x,?_,by rw[←h0];exact h1⟩;have:∃ad,a.eval x= .pointer (some ad):=by
   rcases hx with⟨k,off,hx⟩|⟨cs,hx⟩
   ·rw[h0,hx]at h1;generalize a.eval x=u at h1;cases h1;exact⟨_,rfl⟩
   ·rw[h0,hx]at h1;generalize a.eval x=u at h1;cases h1 with
    |d _ _ h=>cases h;exact⟨_,rfl⟩
  obtain⟨ad,h2⟩:=this;simp[execOp,ho,h2]
def zW (op:BinOp)(k:IntKind)(a b:Int):Option Value:=
 match op with
 | .add=>some (.int k (k.wrap (a+b)))
 | .sub=>some (.int k (k.wrap (a - b)))
 | .mul=>some (.int k (k.wrap (a*b)))
 | .eql=>some (.bool (a==b))
 | .neq=>some (.bool (a !=b))
 | .lss=>some (.bool (decide (a < b)))
 | .leq=>some (.bool (decide (a≤b)))
 | .gtr=>some (.bool (decide (a>b)))
 | .geq=>some (.bool (decide (a≥b)))
 | .shl=>if 0≤b then some (.int k (k.wrap (a*2 ^ min b.toNat k.bits)))else none
 | .shr=>if 0≤b then some (.int k (a.fdiv (2 ^ min b.toNat k.bits)))else none
 | .and=>some (.int k (k.wrap (BitVec.ofInt k.bits a&&& BitVec.ofInt k.bits b).toNat))
 | .or=>some (.int k (k.wrap (BitVec.ofInt k.bits a|||BitVec.ofInt k.bits b).toNat))
 | .andNot=>some (.int k (k.wrap (BitVec.ofInt k.bits a&&& ~~~BitVec.ofInt k.bits b).toNat))
 |_=>none
theorem Qu {op:BinOp}{t t':Nat}{x y:Operand}{k:IntKind}{m n:Int}{r:Value}(ho:o.op= .binOp op t x y t')(hx:ev s x= .d (.v (.int k m)))(hy:ev s y= .d (.v (.int k n)))(hr:zW op k m n=some r):
 bJ X ops s o {pv:= .d (.v r)}:=
 aM hd fun s' he _ a w c hc=>by
  have h1:=df hc ((he x (by simp[ho,Op.operands])).trans hx);have h2:=df hc ((he y (by simp[ho,Op.operands])).trans hy);refine⟨r,?_,.d _ _ (.v _)⟩;cases op<;>simp[zW]at hr
  case shl=>obtain⟨h0,rfl⟩:=hr;simp[execOp,ho,h1,h2,eqGuard,binOp,Op.shift,Int.not_lt.2 h0]
  case shr=>obtain⟨h0,rfl⟩:=hr;simp[execOp,ho,h1,h2,eqGuard,binOp,Op.shift,Int.not_lt.2 h0]
  all_goals(subst hr;simp[execOp,ho,h1,h2,eqGuard,binOp,Op.intArith,Op.intCmp,Op.intBits])
theorem yv {op:BinOp}{t t':Nat}{x y:Operand}{k:IntKind}{m n:Int}(ho:o.op= .binOp op t x y t')(hx:ev s x= .d (.v (.int k m)))(hy:ev s y= .d (.v (.int k n)))(hn:n≠0){r:Value}
 (hr:(op= .quo∧r= .int k (k.wrap (m.tdiv n)))∨(op= .rem∧r= .int k (m.tmod n))):bJ X ops s o {pv:= .d (.v r)}:=
 aM hd fun s' he _ a w c hc=>by
  have h1:=df hc ((he x (by simp[ho,Op.operands])).trans hx);have h2:=df hc ((he y (by simp[ho,Op.operands])).trans hy);refine⟨r,?_,.d _ _ (.v _)⟩;rcases hr with⟨rfl,rfl⟩|⟨rfl,rfl⟩<;>simp[execOp,ho,h1,h2,eqGuard,binOp,Op.intDiv,hn]
omit hd in
theorem uQ {P:Program}{t:Nat}(h:P.underlying t=some .bool)(m n:Bool)(w:World):(Op.equal t (.bool m) (.bool n)).run P w= .ok (m==n) w:=by
 unfold Op.equal;show (Op.equalIn (9999+1) t (.bool m) (.bool n)).run P w=_;rw[Op.equalIn,Sem.run_bind,run_underlying h];rfl
theorem yw {ti:TI}{op:BinOp}{t t':Nat}{x y:Operand}{m n:Bool}{r:Bool}(ho:o.op= .binOp op t x y t')(ht:aU X.P t=some ti)(hb:ti.kind=1)(hx:ev s x= .d (.v (.bool m)))(hy:ev s y= .d (.v (.bool n)))(hr:(op= .eql∧r=(m==n))∨(op= .neq∧r=(m !=n))):
 bJ X ops s o {pv:= .d (.v (.bool r))}:=
 aM hd fun s' he _ a w c hc=>by
  have h1:=df hc ((he x (by simp[ho,Op.operands])).trans hx);have h2:=df hc ((he y (by simp[ho,Op.operands])).trans hy);obtain⟨i,d,z,tk⟩:=iq ht;have hd':d= .bool:=by
   have:=tk.kind;rw[hb]at this;cases d<;>simp[px]at this;rfl
  subst hd';refine⟨.bool r,?_,.d _ _ (.v _)⟩;rcases hr with⟨rfl,rfl⟩|⟨rfl,rfl⟩<;>simp[execOp,ho,h1,h2,eqGuard,binOp,uQ tk.und,bne]
def Bp (P:Program)(t n:Nat):Prop:=∀(w:World) (xs ys:List Int) (x y:Operand) (op:BinOp),xs.length=n→ys.length=n→op= .eql∨op= .neq→
 (do eqGuard op t x y (.agg (xs.map (Value.int .i64)).toArray) (.agg (ys.map (Value.int .i64)).toArray);binOp op t (.agg (xs.map (Value.int .i64)).toArray) (.agg (ys.map (Value.int .i64)).toArray):Sem Value).run P w= .ok (.bool (if op= .eql then xs==ys else xs !=ys)) w
def py:List D→Option (List Int)
 |[]=>some []
 | .v (.int .i64 n)::l=>(py l).map (n:: ·)
 |_=>none
omit hd in
theorem qC {M:Nat→Prop}{w:World}:∀{ds:List D}{vs:List Value}{xs:List Int},cu M w ds vs→py ds=some xs→vs=xs.map (Value.int .i64)
 |[],[],xs,_,h=>by cases h;rfl
 |[],_::_,xs,h,_=>by have:=h.1;simp at this
 |d::ds,[],xs,h,_=>by have:=h.1;simp at this
 |d::ds,v::vs,xs,h,hx=>by
  have h0:=h.2 0 d v rfl rfl;have hr:cu M w ds vs:=⟨by simpa using h.1,fun j a b h1 h2=>h.2 (j+1) a b (by simpa using h1) (by simpa using h2)⟩;unfold py at hx;split at hx
  ·rename_i heq;cases heq
  ·rename_i n l heq;cases heq;cases h0;cases hl:py ds with
   |none=>rw[hl]at hx;cases hx
   |some ys=>
    rw[hl]at hx;cases hx;rw[qC hr hl];rfl
  ·cases hx
theorem Bq {op:BinOp}{t t' n:Nat}{x y:Operand}{ds es:List D}{xs ys:List Int}(ho:o.op= .binOp op t x y t')(hq:Bp X.P t n)(lR:op= .eql∨op= .neq)(hx:ev s x= .d (.agg ds))(hy:ev s y= .d (.agg es))
 (h1:py ds=some xs) (h2:py es=some ys) (h3:xs.length=n) (h4:ys.length=n):bJ X ops s o {pv:= .d (.v (.bool (if op= .eql then xs==ys else xs !=ys)))}:=
 aM hd fun s' he _ a w c hc=>by
  have e1:=bM hc x;have e2:=bM hc y;rw[he x (by simp[ho,Op.operands]),hx]at e1;rw[he y (by simp[ho,Op.operands]),hy]at e2;refine⟨_,?_,.d _ _ (.v _)⟩;generalize hu:a.eval x=u at e1;generalize hv:a.eval y=v at e2;cases e1 with
  |d _ _ e1=>
   cases e2 with
   |d _ _ e2=>
    cases e1 with
    |agg _ vs hl _ bA=>
     cases e2 with
     |agg _ vs' hl' _ oO=>
      have g1:=qC (xs:=xs) ⟨hl,bA⟩ h1;have g2:=qC (xs:=ys) ⟨hl',oO⟩ h2;subst g1;subst g2;have:=hq w xs ys x y op h3 h4 lR;simp only[execOp,ho,hu,hv];rw[Sem.run_bind,this];rfl
theorem JL {t f off sz:Nat}{x:Operand}{ds:List D}{ti:TI}(ho:o.op= .fieldAddr t x f)(ht:aU X.P t=some ti)(hf:ti.fields[f]? =some (off,sz))(hs:sz≠0)(hx:ev s x= .d (.ept ds)):
 bJ X ops s o {pv:= .d (.ept (ds.drop off))}:=
 aM hd fun s' he _ a w c hc=>by
  have e1:=bM hc x;rw[he x (by simp[ho,Op.operands]),hx]at e1;generalize hu:a.eval x=u at e1;cases e1 with
  |d _ _ e1=>
   cases e1 with
   |ept _ b o' fv hM hb h1 dC bA=>
    have ct:((execOp a.eval o).run X.P w)= .ok (.value (.pointer (some ⟨b,o'+off,none⟩))) w:=by
     obtain⟨i,d,z,tk⟩:=iq ht;obtain⟨fs,g,j,rfl,-,q1,q2,q3,q4⟩:=tk.field hf;have Nt:j.size≠0:=by omega
     simp[execOp,ho,hu,Instr.fieldAt,run_underlying tk.und,q1,Instr.sureAddr,fieldPlace,sizeOf,typeInfo,q2,Nt,q3,Addr.add_lit]
    refine⟨_,ct,.d _ _ (.ept _ b (o'+off) (fun j=>fv (off+j)) hM hb (fun d hd=>h1 d (Yd hd)) (fun j hj=>?_) (fun j d hj=>?_))⟩
    ·rw[ZF];exact dC (off+j) (by rw[XJ]at hj;omega)
    ·exact bA (off+j) d (by rwa [Yk]at hj)
end
def ay {α:Type}(l:List α)(off:Nat)(xs:List α):List α:=l.take off++xs++l.drop (off+xs.length)
theorem iA {α:Type}{l xs:List α}{off:Nat}(h:off+xs.length≤l.length)(k:Nat):(ay l off xs)[k]? =if off≤k∧k < off+xs.length then xs[k - off]? else l[k]? :=by
 unfold ay;have h1:(l.take off).length=off:=by rw[Xq];omega
 by_cases hk:k < off
 ·rw[X4,X2 (by omega),if_neg (by omega),XS hk]
 ·by_cases i7:k < off+xs.length
  ·rw[X4,XH (by omega),h1,X2 (by omega),if_pos (by omega)]
  ·rw[XH (by rw[XY,h1];omega),XY,h1,Yk,if_neg (by omega)];congr 1;omega
theorem bg {α:Type}{l xs:List α}{off:Nat}(h:off+xs.length≤l.length):(ay l off xs).length=l.length:=by
 simp only[ay,XY,Xq,XJ];omega
def oS (off:Nat)(l:List Value)(i:Nat)(cs:Array Value):Array Value:=(l.zipIdx i).foldl (fun cs (c,j)=>cs.setIfInBounds (off+j) c) cs
theorem tt (off:Nat):∀(l:List Value) (i:Nat) (cs:Array Value) (k:Nat),off+i+l.length≤cs.size→(oS off l i cs)[k]? =if off+i≤k∧k < off+i+l.length then l[k - (off+i)]? else cs[k]?
 |[],i,cs,k,_=>by rw[if_neg (by simp)];rfl
 |v::l,i,cs,k,h=>by
  have h':off+i < cs.size:=by simp at h;omega
  have:=tt off l (i+1) (cs.setIfInBounds (off+i) v) k (by simp at h ⊢;omega);have e:oS off (v::l) i cs=oS off l (i+1) (cs.setIfInBounds (off+i) v):=by simp[oS,List.zipIdx_cons]
  rw[e,this];by_cases hk:k=off+i
  ·subst hk;rw[if_neg (by omega),if_pos ⟨XB _,by simp⟩];simp[h']
  ·rw[S' (fun e=>hk e.symm)];by_cases i7:off+(i+1)≤k∧k < off+(i+1)+l.length
   ·rw[if_pos i7,if_pos ⟨by omega,by simp;omega⟩];rw[show k - (off+i)=(k - (off+(i+1)))+1 by omega,Yx]
   ·rw[if_neg i7,if_neg (by simp;omega)]
theorem zX (off:Nat)(l:List Value)(cs:Array Value)(h:off+l.length≤cs.size):(oS off l 0 cs).toList=ay cs.toList off l:=by
 apply Yj;intro k;rw[iA (by simpa using h),X6,tt off l 0 cs k (by simpa using h)];simp
theorem yx (place:Nat→Option (Nat × Nat))(cells:Array Value)(i off size:Nat)(v:Value)(rest:List (Nat × Value))(hp:place i=some (off,size))(hs:v.cells.size=size)(ho:off+size≤cells.size):
 Instr.fill place cells ((i,v)::rest)=Instr.fill place (ay cells.toList off v.cells.toList).toArray rest:=by
 have e:(v.cells.zipIdx.foldl (fun cs (c,j)=>cs.setIfInBounds (off+j) c) cells)=(ay cells.toList off v.cells.toList).toArray:=by
  have h1:=zX off v.cells.toList cells (by simp;omega);rw[←h1,V'];unfold oS;rw[←Array.foldl_toList,Array.toList_zipIdx]
 rw[Instr.fill];simp only[hp];rw[if_neg (by simp[hs];omega),e]
def cV:PV→List PV
 | .d (.agg ds)=>ds.map .d
 | .agg ps=>ps
 |p=>[p]
def yy:PV→Bool
 | .d (.agg _)=>true
 | .agg _=>true
 |p=>p.one
theorem bH.one {c:Cx}{w:World}{ds:List PV}{vs:List Value}(h:bH c w ds vs)(h1:∀d∈ds,d.one=true):∀x∈vs,x.oneCell'=true:=by
 intro x hx;obtain⟨j,hj,e⟩:=Yb hx;have hj':j < ds.length:=by rw[h.1];exact hj
 exact(h.2 j ds[j] x (Xk hj') (by rw[←e];exact Xk hj)).one (h1 _ (Ym hj'))
theorem cu.one {M:Nat→Prop}{w:World}{ds:List D}{vs:List Value}(h:cu M w ds vs)(h1:∀d∈ds,d.one=true):∀x∈vs,x.oneCell'=true:=by
 intro x hx;obtain⟨j,hj,e⟩:=Yb hx;have hj':j < ds.length:=by rw[h.1];exact hj
 exact(h.2 j ds[j] x (Xk hj') (by rw[←e];exact Xk hj)).one (h1 _ (Ym hj'))
theorem Hk {v:Value}(h:v.oneCell'=true):v.cells=#[v]:=by
 cases v<;>first|rfl|cases h
theorem kD {c:Cx}{w:World}{p:PV}{v:Value}(h:RepP c w p v)(bF:yy p=true):bH c w (cV p) v.cells.toList∧∀d∈cV p,d.one=true:=by
 have single:p.one=true→cV p=[p]→bH c w (cV p) v.cells.toList∧∀d∈cV p,d.one=true:=by
  intro h1 e;rw[e,Hk (h.one h1)];refine⟨⟨rfl,fun j d x hj hx=>?_⟩,fun d hd=>by simp at hd;subst hd;exact h1⟩;cases j with
  |zero=>simp at hj hx;subst hj;subst hx;exact h
  |succ j=>simp at hj
 cases p with
 |d x=>
  cases x with
  |agg ds=>
   cases h with
   |d _ _ h=>
    cases h with
    |agg _ vs hl h1 bA=>
     refine⟨⟨by simpa[cV,Value.cells]using hl,fun j d x hj hx=>?_⟩,fun d hd=>?_⟩
     ·simp only[cV,Xz,XO]at hj;obtain⟨y,hy,rfl⟩:=hj;exact .d _ _ (bA j y x hy (by simpa[Value.cells]using hx))
     ·simp only[cV,XQ]at hd;obtain⟨y,hy,rfl⟩:=hd;exact h1 y hy
  |tup ds=>simp[yy,PV.one,D.one]at bF
  |_=>exact single bF rfl
 |any=>simp[yy,PV.one]at bF
 |tup=>simp[yy,PV.one]at bF
 |agg ps=>
  cases h with
  |agg _ vs hl h1 bA=>exact⟨⟨by simpa[cV,Value.cells]using hl,fun j d x hj hx=>bA j d x hj (by simpa[Value.cells]using hx)⟩,h1⟩
 |_=>exact single bF rfl
theorem l6 {c:Cx}{w:World}{ds es:List PV}{vs us:List Value}{off:Nat}(h:bH c w ds vs)(g:bH c w es us)(ho:off+es.length≤ds.length):bH c w (ay ds off es) (ay vs off us):=by
 have ho':off+us.length≤vs.length:=by rw[←g.1,←h.1];exact ho
 refine⟨by rw[bg ho,bg ho',h.1],fun j d x hj hx=>?_⟩;rw[iA ho]at hj;rw[iA ho',←g.1]at hx;by_cases hc:off≤j∧j < off+es.length
 ·rw[if_pos hc]at hj hx;exact g.2 _ d x hj hx
 ·rw[if_neg hc]at hj hx;exact h.2 _ d x hj hx
theorem kE {α:Type}{l xs:List α}{off:Nat}{d:α}(h:d∈ay l off xs):d∈l∨d∈xs:=by
 simp only[ay,X3]at h;rcases h with (h|h)|h
 ·exact .inl (Yf h)
 ·exact .inr h
 ·exact .inl (Yd h)
theorem FY {M:Nat→Prop}{w:World}(vs:List Value):cu M w (vs.map .v) vs:=⟨by simp,fun j d x hj hx=>by
 simp only[Xz,hx,Ye,XX.injEq]at hj;subst hj;exact .v x⟩
theorem qD {c:Cx}{w:World}{ds:List D}{vs:List Value}(h:cu c.M w ds vs):bH c w (ds.map .d) vs:=⟨by simpa using h.1,fun j d x hj hx=>by
 simp only[Xz,XO]at hj;obtain⟨y,hy,rfl⟩:=hj;exact .d _ _ (h.2 j y x hy hx)⟩
def uR:List PV→Option (List D)
 |[]=>some []
 | .d x::l=>(uR l).map (x:: ·)
 |_=>none
theorem qE:∀{l:List PV}{ds:List D},uR l=some ds→l=ds.map .d
 |[],ds,h=>by simp[uR]at h;subst h;rfl
 |p::l,ds,h=>by
  unfold uR at h;split at h
  ·rename_i heq;cases heq
  ·rename_i x l' heq;cases heq;cases hl:uR l with
   |none=>rw[hl]at h;cases h
   |some es=>
    rw[hl]at h;cases h;rw[qE hl];rfl
  ·cases h
def r8 (l:List PV):PV:=match uR l with|some ds=> .d (.agg ds)|none=> .agg l
def JM (l:List PV):PV:=match uR l with|some ds=> .d (.tup ds)|none=> .tup l
theorem Br {c:Cx}{w:World}{ds:List D}{vs:List Value}(h:bH c w (ds.map .d) vs):cu c.M w ds vs:=⟨by simpa using h.1,fun j d x hj hx=>by
 have:=h.2 j (.d d) x (by rw[Xz,hj];rfl) hx;cases this with|d _ _ h=>exact h⟩
theorem qF {c:Cx}{w:World}{l:List PV}{vs:List Value}(h:bH c w l vs)(h1:∀d∈l,d.one=true):RepP c w (r8 l) (.agg vs.toArray):=by
 unfold r8;split
 ·rename_i ds fA;have e:=qE fA;subst e;have:=Br h;exact .d _ _ (.agg ds vs this.1 (fun d hd=>h1 (.d d) (Y8 hd)) this.2)
 ·exact .agg l vs h.1 h1 h.2
theorem JN {c:Cx}{w:World}{l:List PV}{vs:List Value}(h:bH c w l vs):RepP c w (JM l) (.tuple vs.toArray):=by
 unfold JM;split
 ·rename_i ds fA;have e:=qE fA;subst e;have:=Br h;exact .d _ _ (.tup ds vs this.1 this.2)
 ·exact .tup l vs h.1 h.2
def pz {α:Type}(pl:List (Nat × Nat)):List α→List (Nat × List α)→Option (List α)
 |cells,[]=>some cells
 |cells,(i,xs)::rest=>
  match pl[i]? with
  |none=>none
  |some (off,size)=>if xs.length=size∧off+size≤cells.length then pz pl (ay cells off xs) rest else none
theorem Bs {c:Cx}{w:World}(pl:List (Nat × Nat))(place:Nat→Option (Nat × Nat))(iP:∀i p,pl[i]? =some p→place i=some p):∀(pd:List (Nat × List PV)) (pv:List (Nat × Value)) (cells:List PV) (vs:List Value) (out:List PV),bH c w cells vs→
 pd.map (·.1)=pv.map (·.1)→(∀(j:Nat) (d:Nat × List PV) (x:Nat × Value),pd[j]? =some d→pv[j]? =some x→bH c w d.2 x.2.cells.toList)→pz pl cells pd=some out→(∀d∈cells,d.one=true)→(∀q∈pd,∀d∈q.2,d.one=true)→
 ∃vs':List Value,Instr.fill place vs.toArray pv=some vs'.toArray∧bH c w out vs'∧(∀d∈out,d.one=true)∧out.length=cells.length
 |[],[],cells,vs,out,h,_,_,hf,h1,_=>by
  simp[pz]at hf;subst hf;exact⟨vs,rfl,h,h1,rfl⟩
 |[],_::_,_,_,_,_,hm,_,_,_,_=>by simp at hm
 |_::_,[],_,_,_,_,hm,_,_,_,_=>by simp at hm
 |(i,xs)::pd,(i',v)::pv,cells,vs,out,h,hm,hr,hf,h1,h2=>by
  simp only[Xm,List.cons.injEq]at hm;obtain⟨rfl,hm⟩:=hm;have hx:=hr 0 (i,xs) (i,v) rfl rfl;unfold pz at hf;split at hf
  ·cases hf
  ·rename_i off size hp;split at hf
   ·rename_i hc;have DQ:v.cells.size=size:=by have:=hx.1;simp at this;omega
    have bR:off+xs.length≤cells.length:=by omega
    rw[yx place vs.toArray i off size v pv (iP i _ hp) DQ (by have:=h.1;simp;omega)];obtain⟨vs',q1,q2,q3,q4⟩:=Bs pl place iP pd pv (ay cells off xs) (ay vs off v.cells.toList) out (l6 h hx bR) hm (fun j d x hj hx=>hr (j+1) d x (by simpa using hj) (by simpa using hx)) hf
     (fun d hd=>(kE hd).elim (h1 d) (h2 (i,xs) (by simp) d)) (fun q hq=>h2 q (by simp[hq]))
    exact⟨vs',q1,q2,q3,by rw[q4,bg bR]⟩
   ·cases hf
theorem cp {c:Cx}{w:World}{d:D}{v:Value}(h:RepP c w (.d d) v):RepD c.M w d v:=by
 cases h with|d _ _ h=>exact h
theorem cE {α:Type}{sz:Nat}:∀{rows:List (List α)},(∀r∈rows,r.length=sz)→∀i j,j < sz→rows.flatten[i*sz+j]? =(rows[i]?).bind (·[j]?)
 |[],_,i,j,_=>by simp
 |r::rows,h,0,j,hj=>by
  rw[YU,X2 (by rw[h r (by simp)];omega)];simp
 |r::rows,h,i+1,j,hj=>by
  have hr:=h r (by simp);rw[YU,XH (by rw[hr,YY];omega),hr,show (i+1)*sz+j - sz=i*sz+j by rw[YY];omega,cE (fun r hr=>h r (by simp[hr])) i j hj];simp
section
variable {X:Cfg}{ops:Array Oper}{s:FS}{o:Oper}(hd:∀d,o.dst=some d→d < X.n)
include hd
theorem Bt {t f off sz k o':Nat}{x:Operand}{ti:TI}(ho:o.op= .fieldAddr t x f)(ht:aU X.P t=some ti)(hf:ti.fields[f]? =some (off,sz))(hs:sz≠0)(hx:ev s x= .ptr k o'):
 bJ X ops s o {pv:= .ptr k (o'+off)}:=
 aM hd fun s' he _ a w c hc=>by
  have e1:=bM hc x;rw[he x (by simp[ho,Op.operands]),hx]at e1;generalize hu:a.eval x=u at e1;cases e1 with
  |ptr _ _ b hb=>
   obtain⟨i,d,z,tk⟩:=iq ht;obtain⟨fs,g,j,rfl,-,q1,q2,q3,q4⟩:=tk.field hf;have Nt:j.size≠0:=by omega
   exact⟨.pointer (some ⟨b,o'+off,none⟩),by simp[execOp,ho,hu,Instr.fieldAt,run_underlying tk.und,q1,Instr.sureAddr,fieldPlace,sizeOf,typeInfo,q2,Nt,q3,Addr.add_lit],.ptr k _ b hb⟩
omit hd in
theorem mQ {P:Program}{t:Nat}{ti:TI}(ht:aU P t=some ti)(w:World)(b off:Nat)(cs:List Value)(hl:cs.length=ti.size)(fq:∀j v,cs[j]? =some v→w.cell? ⟨b,off+j,none⟩=some v)(h0:ti.agg=false→∃v,cs=[v]):
 (Instr.loadAt t (.pointer (some ⟨b,off,none⟩))).run P w= .ok (if ti.agg then .agg cs.toArray else cs.headD undef) w:=by
 obtain⟨i,d,z,tk⟩:=iq ht;have Jc:(isAgg t).run P w= .ok ti.agg w:=by
  unfold isAgg;rw[Sem.run_bind,run_underlying tk.und w,←tk.agg];cases d<;>simp[NF]
 have dC:∀j v,cs[j]? =some v→w.cell? ((⟨b,off,none⟩:Addr).add j)=some v:=fun j v hv=>by rw[Addr.add_lit];exact fq j v hv
 cases hg:ti.agg with
 |true=>
  have hl':=run_loadCells_list (P:=P) w ⟨b,off,none⟩ cs dC;rw[hl,←tk.size]at hl';rw[hg]at Jc;simp[Instr.loadAt,Instr.sureAddr,loadVar,Sem.run_bind,Jc,sizeOf,typeInfo,tk.info,hl']
 |false=>
  obtain⟨v,rfl⟩:=h0 hg;rw[hg]at Jc;have:=fq 0 v rfl;simp only[XW]at this;simp[Instr.loadAt,Instr.sureAddr,loadVar,Sem.run_bind,Jc,this]
theorem Bu {t:Nat}{x:Operand}{ti:TI}{ds:List D}{p:D}(ho:o.op= .load t x)(ht:aU X.P t=some ti)(hx:ev s x= .d (.ept ds))(cT:ti.size≤ds.length)(hp:(ti.agg=true∧p= .agg (ds.take ti.size))∨(ti.agg=false∧ti.size=1∧ds[0]? =some p)):
 bJ X ops s o {pv:= .d p}:=
 aM hd fun s' he _ a w c hc=>by
  have e1:=bM hc x;rw[he x (by simp[ho,Op.operands]),hx]at e1;generalize hu:a.eval x=u at e1;cases e1 with
  |d _ _ e1=>
   cases e1 with
   |ept _ b off f hM hb h1 dC bA=>
    have ct:=mQ ht w b off ((X5 ti.size).map f) (by simp) (fun j v hj=>by
     simp only[Xz,XO]at hj;obtain⟨y,hy,rfl⟩:=hj;have:=ZU (n:=ti.size) (i:=j);have hj':j < ti.size:=by
      rcases XP j ti.size with h|h
      ·exact h
      ·rw[XT (by simpa using h)]at hy;cases hy
     rw[ZU hj']at hy;cases hy;exact dC j (by omega))
    rcases hp with⟨pg,rfl⟩|⟨pg,lT,hp⟩
    ·refine⟨.agg ((X5 ti.size).map f).toArray,?_,.d _ _ (.agg _ _ (by simp;omega) (fun d hd=>h1 d (Yf hd)) (fun j d v hj hv=>?_))⟩
     ·have:=ct (fun h=>by rw[pg]at h;cases h);rw[pg,if_pos rfl]at this;simp only[execOp,ho,hu];rw[Sem.run_bind,this];rfl
     ·rw[Zj]at hj;split at hj
      ·rename_i hlt;simp only[Xz,ZU hlt,Ye,XX.injEq]at hv;subst hv;exact bA j d hj
      ·cases hj
    ·refine⟨f 0,?_,.d _ _ (bA 0 p hp)⟩;have:=ct (fun _=>⟨f 0,by rw[lT];rfl⟩);rw[pg,lT]at this;simp only[execOp,ho,hu];rw[Sem.run_bind,this];rfl
omit hd in
theorem eI {α:Type}{l:List α}{off n j:Nat}{x:α}(h:((l.drop off).take n)[j]? =some x):j < n∧l[off+j]? =some x:=by
 rw[Zj]at h;split at h
 ·rename_i hlt;rw[Yk]at h;exact⟨hlt,h⟩
 ·cases h
omit hd in
theorem bH.part {c:Cx}{w:World}{l:List PV}{vs:List Value}(h:bH c w l vs)(off n:Nat):bH c w ((l.drop off).take n) ((vs.drop off).take n):=
 ⟨by rw[Xq,Xq,XJ,XJ,h.1],fun j d x hj hx=>h.2 _ d x (eI hj).2 (eI hx).2⟩
theorem Bv {t k off T:Nat}{x:Operand}{ti:TI}{cells:List PV}{p:PV}(ho:o.op= .load t x)(ht:aU X.P t=some ti)(hx:ev s x= .ptr k off)(hk:s.heap k= .box T cells)(cT:off+ti.size≤cells.length)
 (hp:(ti.agg=true∧p=r8 ((cells.drop off).take ti.size))∨(ti.agg=false∧ti.size=1∧cells[off]? =some p)):bJ X ops s o {pv:=p,touch:=[k]}:=
 aM hd fun s' he io a w c hc=>by
  have e1:=bM hc x;rw[he x (by simp[ho,Op.operands]),hx]at e1;generalize hu:a.eval x=u at e1;have a9:=hc.chunk k;rw[io k (by simp),hk]at a9;cases e1 with
  |ptr _ _ b hb=>
   cases a9 with
   |box _ _ b' vs hb' hh hr h1=>
    rw[hb]at hb';cases hb';have P9:vs.length=cells.length:=hr.1.symm;have ct:=mQ ht w b off ((vs.drop off).take ti.size) (by rw[Xq,XJ];omega) (fun j v hj=>by
     simp[YS,hh,(eI hj).2])
    rcases hp with⟨pg,rfl⟩|⟨pg,lT,hp⟩
    ·refine⟨.agg ((vs.drop off).take ti.size).toArray,?_,qF (hr.part off ti.size) (fun d hd=>h1 d (Yd (Yf hd)))⟩;have:=ct (fun h=>by rw[pg]at h;cases h);rw[pg,if_pos rfl]at this;simp only[execOp,ho,hu];rw[Sem.run_bind,this];rfl
    ·obtain⟨v,hv⟩:∃v,vs[off]? =some v:=⟨vs[off]'(by omega),Xk _⟩;have eS:(vs.drop off).take ti.size=[v]:=by
      rw[lT,YQ (by omega)];simp only[ZC,Z4];rw[Xk (by omega)]at hv;simpa using hv
     refine⟨v,?_,hr.2 off p v hp hv⟩;have:=ct (fun _=>⟨v,eS⟩);rw[pg,eS]at this;simp only[execOp,ho,hu];rw[Sem.run_bind,this];rfl
theorem JO {t e sz:Nat}{x y:Operand}{ti te:TI}{rows:List (List D)}{row:List D}{kd:IntKind}{n:Int}(ho:o.op= .indexAddr t x y)(ht:aU X.P t=some ti)(he':ti.elem=some e)(gR:aU X.P e=some te)(cT:te.size=sz)
 (hx:ev s x= .d (.sl sz rows)) (hy:ev s y= .d (.v (.int kd n))) (hn:0≤n) (bZ:rows[n.toNat]? =some row):bJ X ops s o {pv:= .d (.ept row)}:=
 aM hd fun s' he _ a w c hc=>by
  have e1:=bM hc x;rw[he x (by simp[ho,Op.operands]),hx]at e1;have e2:=df hc ((he y (by simp[ho,Op.operands])).trans hy);generalize hu:a.eval x=u at e1;have hlt:n.toNat < rows.length:=(Xn.1 bZ).1;have e1:=cp e1;cases e1 with
  |nil=>simp at hlt
  |sl _ _ b off cap f hM hb hc' hm hr h1 dC bA=>
   obtain⟨i,d,z,tk⟩:=iq ht;obtain⟨ie,de,ze,tke⟩:=iq gR;have kh:d= .slice e:=by
    have:=tk.elem;rw[he']at this;cases d<;>simp[gq]at this;rw[this]
   subst kh;have rN:0≤n∧n < (rows.length:Int):=⟨hn,by omega⟩;have zI:row.length=sz:=hr row (Xl bZ);refine⟨.pointer (some ⟨b,off+n.toNat*sz,none⟩),?_,.d _ _ (.ept row b _ (fun j=>f n.toNat j) hM hb (fun d hd=>h1 row (Xl bZ) d hd) (fun j hj=>dC _ j hlt (by omega)) (fun j d hj=>bA _ j row d bZ hj))⟩;simp[execOp,ho,hu,e2,Instr.indexAt,asIntOf,run_underlying tk.und,rN,sizeOf,typeInfo,tke.info,tke.size,cT,Addr.add_lit]
theorem JP {t ty:Nat}{x:Operand}{e:Nat}{ti:TI}{d:D}{n:Nat}(ho:o.op= .call {callee:= .builtin .len,args:=#[x],argTypes:=#[t]})(ht:aU X.P t=some ti)(he':ti.elem=some e)(hx:ev s x= .d d)
 (hn:(∃sz rows,d= .sl sz rows∧n=rows.length)∨(d= .v (.slice none 0 0)∧n=0)):bJ X ops s o {pv:= .d (.v (.int .i64 n))}:=
 aM hd fun s' he _ a w c hc=>by
  have e1:=bM hc x;rw[he x (by simp[ho,Op.operands,Call.operands]),hx]at e1;generalize hu:a.eval x=u at e1;obtain⟨i,dd,z,tk⟩:=iq ht;have kh:dd= .slice e:=by
   have:=tk.elem;rw[he']at this;cases dd<;>simp[gq]at this;rw[this]
  subst kh;have ph:∃ao cap,u= .slice ao n cap:=by
   have e1:=cp e1;rcases hn with⟨sz,rows,rfl,rfl⟩|⟨rfl,rfl⟩
   ·cases e1 with
    |nil _ ao cap=>exact⟨ao,cap,rfl⟩
    |sl _ _ b off cap=>exact⟨_,cap,rfl⟩
   ·cases e1;exact⟨none,0,rfl⟩
  obtain⟨ao,cap,rfl⟩:=ph;refine⟨.int .i64 n,?_,.d _ _ (.v _)⟩;simp[execOp,ho,hu,resolve,invoke,builtin,Builtin.len_,run_underlying tk.und,goInt]
theorem Er {x:Operand}{i:Nat}{ds:List D}{d:D}(ho:o.op= .extract x i)(hx:ev s x= .d (.tup ds))(hi:ds[i]? =some d):bJ X ops s o {pv:= .d d}:=
 aM hd fun s' he _ a w c hc=>by
  have e1:=bM hc x;rw[he x (by simp[ho,Op.operands]),hx]at e1;generalize hu:a.eval x=u at e1;have e1:=cp e1;cases e1 with
  |tup _ vs hl bA=>
   have hlt:i < vs.length:=by rw[←hl];exact(Xn.1 hi).1
   have hv:vs[i]? =some vs[i]:=Xk hlt;exact⟨vs[i],by simp[execOp,ho,hu,Instr.extract,hv],.d _ _ (bA i d _ hi hv)⟩
theorem Bw {x:Operand}{i:Nat}{ds:List PV}{d:PV}(ho:o.op= .extract x i)(hx:ev s x= .tup ds)(hi:ds[i]? =some d):bJ X ops s o {pv:=d}:=
 aM hd fun s' he _ a w c hc=>by
  have e1:=bM hc x;rw[he x (by simp[ho,Op.operands]),hx]at e1;generalize hu:a.eval x=u at e1;cases e1 with
  |tup _ vs hl bA=>
   have hlt:i < vs.length:=by rw[←hl];exact(Xn.1 hi).1
   have hv:vs[i]? =some vs[i]:=Xk hlt;exact⟨vs[i],by simp[execOp,ho,hu,Instr.extract,hv],bA i d _ hi hv⟩
theorem yz {t:Nat}{pl:List (Nat × Nat)}{place:Nat→Option (Nat × Nat)}{parts:Array (Nat × Operand)}{ti:TI}{pd:List (Nat × List PV)}{out:List PV}(ho:o.op= .build t parts)(ht:aU X.P t=some ti)(iP:∀i p,pl[i]? =some p→place i=some p)(hbt:∀ps,X.P.built t ps=Instr.fill place ti.zero.toArray ps)
 (hp:pd.length=parts.size) (hq:∀(j:Nat) (i:Nat) (x:Operand),parts[j]? =some (i,x)→pd[j]? =some (i,cV (ev s x))∧yy (ev s x)=true) (hf:pz pl (ti.zero.map fun x=> .d (.v x)) pd=some out):
 bJ X ops s o {pv:=r8 out}:=
 aM hd fun s' he _ a w c hc=>by
  obtain⟨i,d,z,tk⟩:=iq ht;have MB:bH c w (ti.zero.map fun x=> .d (.v x)) ti.zero:=by
   have:=qD (c:=c) (FY (M:=c.M) (w:=w) ti.zero);rwa [List.map_map]at this
  have Th:∀d∈ti.zero.map (fun x=>PV.d (.v x)),d.one=true:=by
   intro d hd;obtain⟨x,hx,rfl⟩:=XQ.1 hd;exact tk.one x hx
  have nE:∀(j:Nat) (d:Nat × List PV) (x:Nat × Value),pd[j]? =some d→(parts.toList.map fun(i,x)=>(i,a.eval x))[j]? =some x→d.1=x.1∧bH c w d.2 x.2.cells.toList∧∀e∈d.2,e.one=true:=by
   intro j d x hj hx;simp only[Xz,X6,XO]at hx;obtain⟨⟨i,y⟩,hy,rfl⟩:=hx;obtain⟨h1,h3⟩:=hq j i y hy;rw[hj]at h1;cases h1;have fU:y∈o.op.operands:=by
    rw[ho];simp only[Op.operands,_c,XQ];exact⟨(i,y),by simpa using Z1 hy,rfl⟩
   have bA:=bM hc y;rw[he y fU]at bA;rw[←he y fU]at h3;have:=kD (bM hc y) h3;rw[he y fU]at this;exact⟨rfl,this⟩
  obtain⟨vs',q1,q2,q3,q4⟩:=Bs (c:=c) (w:=w) pl place iP pd (parts.toList.map fun(i,x)=>(i,a.eval x)) (ti.zero.map fun x=> .d (.v x)) ti.zero out MB
   (by
    apply Yj;intro j;simp only[Xz];cases hj:parts[j]? with
    |none=>
     have h1:parts.size≤j:=by simpa using hj
     rw[XT (by omega)];simp[hj]
    |some ix=>
     obtain⟨i,x⟩:=ix;obtain⟨h1,-⟩:=hq j i x hj;simp[hj,h1])
   (fun j d x h1 h2=>(nE j d x h1 h2).2.1) hf Th
   (fun q hq' e he'=>by
    obtain⟨j,hj,UW⟩:=Yb hq';have hjs:j < parts.toList.length:=by simpa using hp ▸ hj
    exact(nE j q _ (by rw[←UW];exact Xk hj) (by rw[Xz,Xk hjs];rfl)).2.2 e he')
  refine⟨.agg vs'.toArray,?_,qF q2 q3⟩;have hb:X.P.built t (parts.map fun(i,x)=>(i,a.eval x)).toList=some vs'.toArray:=by
   rw[hbt,Z9];exact q1
  have:=run_build w t (parts.map fun(i,x)=>(i,a.eval x)) vs'.toArray hb;simp only[execOp,ho];rw[Sem.run_bind,this];rfl
theorem JQ {t:Nat}{parts:Array (Nat × Operand)}{ti:TI}{pd:List (Nat × List PV)}{out:List PV}(ho:o.op= .build t parts)(ht:aU X.P t=some ti)(dS:ti.fields≠[])
 (hp:pd.length=parts.size) (hq:∀(j:Nat) (i:Nat) (x:Operand),parts[j]? =some (i,x)→pd[j]? =some (i,cV (ev s x))∧yy (ev s x)=true) (hf:pz ti.fields (ti.zero.map fun x=> .d (.v x)) pd=some out):
 bJ X ops s o {pv:=r8 out}:=
 by
  obtain⟨i,d,z,tk⟩:=iq ht;obtain⟨⟨off,sz⟩,rest,gY⟩:∃p l,ti.fields=p::l:=by
   cases h:ti.fields with
   |nil=>exact absurd h dS
   |cons p l=>exact⟨p,l,rfl⟩
  obtain⟨fs,g,j,rfl,iP,-⟩:=tk.field (f:=0) (off:=off) (sz:=sz) (by rw[gY];rfl);refine yz hd ho ht (pl:=ti.fields) (place:=(ti.fields.toArray[·]?)) (fun i p h=>by simpa using h) (fun ps=>?_) hp hq hf;unfold Program.built;have UX:fs.toList.mapM (fun f=>(X.P.info? f.type).map fun i=>(f.offset,i.size))=some ti.fields:=iP;have:z.cells=ti.zero.toArray:=by rw[←tk.zcells]
  simp only[tk.info,tk.und,tk.zero,UX,this]
theorem By {g:Nat}{caps:Array Operand}(ho:o.op= .makeFunc (.func g) #[] caps):bJ X ops s o {pv:= .clo g (caps.toList.map (ev s))}:=
 aM hd fun s' he _ a w c hc=>by
  refine⟨.func (.func g) #[] (caps.toList.map a.eval).toArray,?_,.clo g _ _ (by simp) (fun j d x hj hx=>?_)⟩
  ·have:(caps.toList.map a.eval).toArray=caps.map a.eval:=by rw[←Z9]
   rw[this];simp[execOp,ho,Instr.makeFunc]
  ·simp only[Xz,X6,XO]at hj hx;obtain⟨y,hy,rfl⟩:=hj;obtain⟨y',hy',rfl⟩:=hx;rw[hy]at hy';cases hy';have:=bM hc y;rwa [he y (by rw[ho];simp[Op.operands,Z1 hy])]at this
theorem Es {t f off sz k g sz' i j:Nat}{x:Operand}{ti:TI}(ho:o.op= .fieldAddr t x f)(ht:aU X.P t=some ti)(hf:ti.fields[f]? =some (off,sz))(hs:sz≠0)(hx:ev s x= .rp k g sz' i j):
 bJ X ops s o {pv:= .rp k g sz' i (j+off)}:=
 aM hd fun s' he _ a w c hc=>by
  have e1:=bM hc x;rw[he x (by simp[ho,Op.operands]),hx]at e1;generalize hu:a.eval x=u at e1;cases e1 with
  |rp _ _ _ _ _ b n cap hb=>
   obtain⟨ii,d,z,tk⟩:=iq ht;obtain⟨fs,g,jj,rfl,-,q1,q2,q3,q4⟩:=tk.field hf;have Nt:jj.size≠0:=by omega
   exact⟨.pointer (some ⟨b,i*sz'+(j+off),none⟩),by simp[execOp,ho,hu,Instr.fieldAt,run_underlying tk.und,q1,Instr.sureAddr,fieldPlace,sizeOf,typeInfo,q2,Nt,q3,Addr.add_lit,ZF],.rp k _ _ _ _ b n cap hb⟩
omit hd in
theorem ef {k E sz g:Nat}{rows:List (List PV)}{c:Cx}{w:World}{b n cap:Nat}(a9:ChunkOK c w k (.row E sz g rows))(hb:c.ov k g=some (.slice (some ⟨b,0,none⟩) n cap))(bZ:rows≠[]):
 ∃(cur:Array Value) (xs:List Value),w.heap[b]? =some (.cells cur E (0,0))∧bH c w rows.flatten xs∧xs.length=rows.length*sz∧(∀j,j < rows.length*sz→cur[j]? =xs[j]?)∧(∀r∈rows,r.length=sz)∧(∀r∈rows,∀d∈r,d.one=true)∧n=rows.length∧rows.length*sz≤cur.size∧
  cap≤maxLen∧n≤cap∧cur.size=cap*sz:=by
 cases a9 with
 |row _ _ _ _ u xs hu da hr cT h1 hg=>
  rw[hb]at hu;cases hu;generalize hn:rows.length=n' at da;cases da with
  |zero a=>exact absurd (X9 hn) bZ
  |row _ _ _ cur _ h0 hh Jv hm hs hl ht=>
   refine⟨cur,xs,hh,hr,hl,fun j hj=>?_,cT,h1,rfl,?_,hm,Jv,hs⟩
   ·rw[←ht,XS hj,X6]
   ·rw[hs];exact Yt sz Jv
omit hd in
theorem l7 {k E sz g:Nat}{rows:List (List PV)}{c:Cx}{w:World}{v:Value}(a9:ChunkOK c w k (.row E sz g rows))(eh:c.ov k g=some v)(bZ:rows≠[]):∃b cap,v= .slice (some ⟨b,0,none⟩) rows.length cap:=by
 cases a9 with
 |row _ _ _ _ u xs hu da hr cT h1 hg=>
  rw[eh]at hu;cases hu;generalize hn:rows.length=n' at da;cases da with
  |nil=>exact absurd (X9 hn) bZ
  |zero a=>exact absurd (X9 hn) bZ
  |row b n cap=>exact⟨b,cap,rfl⟩
theorem Bz {t e k g sz:Nat}{x y:Operand}{ti te:TI}{rows:List (List PV)}{kd:IntKind}{n:Int}(ho:o.op= .indexAddr t x y)(ht:aU X.P t=some ti)(he':ti.elem=some e)(gR:aU X.P e=some te)(cT:te.size=sz)
 (hx:ev s x= .own k g) (hk:s.heap k= .row e sz g rows) (hy:ev s y= .d (.v (.int kd n))) (hn:0≤n) (hlt:n.toNat < rows.length):bJ X ops s o {pv:= .rp k g sz n.toNat 0,touch:=[k]}:=
 aM hd fun s' he io a w c hc=>by
  have e1:=bM hc x;rw[he x (by simp[ho,Op.operands]),hx]at e1;have e2:=df hc ((he y (by simp[ho,Op.operands])).trans hy);have a9:=hc.chunk k;rw[io k (by simp),hk]at a9;generalize hu:a.eval x=u at e1;obtain⟨i,d,z,tk⟩:=iq ht;obtain⟨ie,de,ze,tke⟩:=iq gR;have kh:d= .slice e:=by
   have:=tk.elem;rw[he']at this;cases d<;>simp[gq]at this;rw[this]
  subst kh;cases e1 with
  |own _ _ _ eh h1=>
   obtain⟨gb,cap,rfl⟩:=l7 a9 eh (fun e=>by rw[e]at hlt;simp at hlt);have rN:0≤n∧n < (rows.length:Int):=⟨hn,by omega⟩;refine⟨.pointer (some ⟨gb,n.toNat*sz+0,none⟩),?_,.rp k g sz _ _ gb _ cap eh⟩;simp[execOp,ho,hu,e2,Instr.indexAt,asIntOf,run_underlying tk.und,rN,sizeOf,typeInfo,tke.info,tke.size,cT,Addr.add_lit]
omit hd in
theorem BA {sz i:Nat}{rows:List (List PV)}{row:List PV}{c:Cx}{w:World}{xs:List Value}(h:bH c w rows.flatten xs)(cT:∀r∈rows,r.length=sz)(bZ:rows[i]? =some row)(hl:xs.length=rows.length*sz):bH c w row ((xs.drop (i*sz)).take sz):=by
 have hi:i < rows.length:=(Xn.1 bZ).1;have zI:row.length=sz:=cT row (Xl bZ);have A0:(i+1)*sz≤rows.length*sz:=Yt sz hi;rw[YY]at A0;refine⟨by rw[Xq,XJ];omega,fun j d x hj hx=>?_⟩;obtain⟨hlt,hx⟩:=eI hx;exact h.2 _ d x (by rw[cE cT i j hlt,bZ];exact hj) hx
theorem yA {t k g sz i j E:Nat}{x:Operand}{ti:TI}{rows:List (List PV)}{row:List PV}{p:PV}(ho:o.op= .load t x)(ht:aU X.P t=some ti)(hx:ev s x= .rp k g sz i j)(hk:s.heap k= .row E sz g rows)(bZ:rows[i]? =some row)(cT:j+ti.size≤sz)
 (hp:(ti.agg=true∧p=r8 ((row.drop j).take ti.size))∨(ti.agg=false∧ti.size=1∧row[j]? =some p)):bJ X ops s o {pv:=p,touch:=[k]}:=
 aM hd fun s' he io a w c hc=>by
  have e1:=bM hc x;rw[he x (by simp[ho,Op.operands]),hx]at e1;have a9:=hc.chunk k;rw[io k (by simp),hk]at a9;generalize hu:a.eval x=u at e1;cases e1 with
  |rp _ _ _ _ _ b n cap hb=>
   obtain⟨cur,xs,q1,q2,q3,q4,q5,q6,q7,q8,-⟩:=ef a9 hb (fun e=>by rw[e]at bZ;cases bZ);have hi:i < rows.length:=(Xn.1 bZ).1;have zI:row.length=sz:=q5 row (Xl bZ);have A0:(i+1)*sz≤rows.length*sz:=Yt sz hi;rw[YY]at A0;have nE:=BA q2 q5 bZ q3;generalize Jd:(xs.drop (i*sz)).take sz=ys at nE;have rP:ys.length=sz:=by rw[←nE.1,zI]
   have dC:∀j' v,ys[j']? =some v→cur[i*sz+j']? =some v:=by
    intro j' v hj';rw[←Jd]at hj';obtain⟨hlt,hj'⟩:=eI hj';rw[q4 _ (by omega),hj']
   have ct:=mQ ht w b (i*sz+j) ((ys.drop j).take ti.size) (by rw[Xq,XJ];omega) (fun j' v hj'=>by
    have:=dC _ v (eI hj').2;simp only[YS,q1];rw[ZF,this];simp)
   rcases hp with⟨pg,rfl⟩|⟨pg,lT,hp⟩
   ·refine⟨.agg ((ys.drop j).take ti.size).toArray,?_,qF (nE.part j ti.size) (fun d hd=>q6 row (Xl bZ) d (Yd (Yf hd)))⟩;have:=ct (fun h=>by rw[pg]at h;cases h);rw[pg,if_pos rfl]at this;simp only[execOp,ho,hu];rw[Sem.run_bind,this];rfl
   ·obtain⟨v,hv⟩:∃v,ys[j]? =some v:=⟨ys[j]'(by omega),Xk _⟩;have eS:(ys.drop j).take ti.size=[v]:=by
     rw[lT,YQ (by omega)];simp only[ZC,Z4];rw[Xk (by omega)]at hv;simpa using hv
    refine⟨v,?_,nE.2 j p v hp hv⟩;have:=ct (fun _=>⟨v,eS⟩);rw[pg,eS]at this;simp only[execOp,ho,hu];rw[Sem.run_bind,this];rfl
theorem Hl {t k g sz E:Nat}{x:Operand}{e:Nat}{ti:TI}{rows:List (List PV)}(ho:o.op= .call {callee:= .builtin .len,args:=#[x],argTypes:=#[t]})(ht:aU X.P t=some ti)(he':ti.elem=some e)(hx:ev s x= .own k g)(hk:s.heap k= .row E sz g rows):
 bJ X ops s o {pv:= .d (.v (.int .i64 rows.length)),touch:=[k]}:=
 aM hd fun s' he io a w c hc=>by
  have e1:=bM hc x;rw[he x (by simp[ho,Op.operands,Call.operands]),hx]at e1;have a9:=hc.chunk k;rw[io k (by simp),hk]at a9;generalize hu:a.eval x=u at e1;obtain⟨i,dd,z,tk⟩:=iq ht;have kh:dd= .slice e:=by
   have:=tk.elem;rw[he']at this;cases dd<;>simp[gq]at this;rw[this]
  subst kh;cases e1 with
  |own _ _ _ eh h1=>
   cases a9 with
   |row _ _ _ _ u' xs hu' da hr Pq h1 hg=>
    rw[eh]at hu';cases hu';refine⟨.int .i64 rows.length,?_,.d _ _ (.v _)⟩;generalize hn:rows.length=n' at da;cases da<;>simp[execOp,ho,hu,resolve,invoke,builtin,Builtin.len_,run_underlying tk.und,goInt]
end
section
variable {X:Cfg}{ops:Array Oper}{s:FS}{o:Oper}(hd:∀d,o.dst=some d→d < X.n)
include hd
theorem JR {t nk:Nat}{ti:TI}(ho:o.op= .alloc t)(ht:aU X.P t=some ti)(hk:s.heap nk= .none)(t5:¬nk < X.m):bJ X ops s o {pv:= .ptr nk 0,eff:=[(nk,.box t (ti.zero.map fun x=> .d (.v x)))],touch:=[nk]}:=
 d6 hd (fun kc h=>by simp at h;subst h;simp) fun s' he io a w c hc=>by
  obtain⟨i,d,z,tk⟩:=iq ht;have hr:bH c w (ti.zero.map fun x=> .d (.v x)) ti.zero:=by
   have:=qD (c:=c) (FY (M:=c.M) (w:=w) ti.zero);rwa [List.map_map]at this
  obtain⟨c',h1,h2⟩:=hc.new_box (k:=nk) (by rw[io nk (by simp)];exact hk) t5 t _ ti.zero hr (fun d hd=>by
   obtain⟨x,hx,rfl⟩:=XQ.1 hd;exact tk.one x hx)
  refine⟨_,_,_,?_,.inl rfl,c',h1,h2⟩;have hz:z.cells=ti.zero.toArray:=by rw[←tk.zcells]
  have ct:(Instr.alloc t true (.tuple #[])).run X.P w= .ok (.pointer (some ⟨w.heap.size,0,none⟩)) (w.alloc (.cells ti.zero.toArray t)):=by
   rw[←hz];have jH:∀o:Obj,({w with heap:=w.heap.push o}:World)=w.alloc o:=fun o=>(J' w o);simp[Instr.alloc,zeroValue,typeInfo,tk.info,tk.zero,newVar,newRow,newObj,Sem.run,jH]
  simp only[execOp,ho];rw[Sem.run_bind,ct];rfl
theorem Qv {t nk:Nat}{x:Operand}(ho:o.op= .box t x)(hk:s.heap nk= .none)(t5:¬nk < X.m)(hx:yy (ev s x)=true):bJ X ops s o {pv:= .ptr nk 0,eff:=[(nk,.box t (cV (ev s x)))],touch:=[nk]}:=
 d6 hd (fun kc h=>by simp at h;subst h;simp) fun s' he io a w c hc=>by
  have e1:=bM hc x;rw[he x (by simp[ho,Op.operands])]at e1;obtain⟨r1,r2⟩:=kD e1 hx;obtain⟨c',h1,h2⟩:=hc.new_box (k:=nk) (by rw[io nk (by simp)];exact hk) t5 t _ _ r1 r2;refine⟨_,_,_,?_,.inl rfl,c',h1,h2⟩;have ct:(Instr.box t (a.eval x)).run X.P w= .ok (.pointer (some ⟨w.heap.size,0,none⟩)) (w.alloc (.cells (a.eval x).cells.toList.toArray t)):=by
   have jH:∀o:Obj,({w with heap:=w.heap.push o}:World)=w.alloc o:=fun o=>(J' w o);simp[Instr.box,newVar,newRow,newObj,Sem.run,jH]
  simp only[execOp,ho];rw[Sem.run_bind,ct];rfl
theorem JS {t k off T:Nat}{x y:Operand}{ti:TI}{cells:List PV}(ho:o.op= .store t x y)(sX:o.dst=none)(ht:aU X.P t=some ti)(hx:ev s x= .ptr k off)(hk:s.heap k= .box T cells)(hy:yy (ev s y)=true)
 (hl:(cV (ev s y)).length=ti.size) (cT:off+ti.size≤cells.length):bJ X ops s o {pv:= .any,eff:=[(k,.box T (ay cells off (cV (ev s y))))],touch:=[k]}:=
 d6 hd (fun kc h=>by simp at h;subst h;simp) fun s' he io a w c hc=>by
  have e1:=bM hc x;rw[he x (by simp[ho,Op.operands]),hx]at e1;have e2:=bM hc y;rw[he y (by simp[ho,Op.operands])]at e2;obtain⟨r1,r2⟩:=kD e2 hy;have eS:=bH.one r1 r2;have hk':s'.heap k= .box T cells:=by rw[io k (by simp)];exact hk
  have a9:=hc.chunk k;rw[hk']at a9;generalize hu:a.eval x=u at e1;cases e1 with
  |ptr _ _ b hb=>
   cases a9 with
   |box _ _ b' vs hb' hh hr h1=>
    rw[hb]at hb';cases hb';obtain⟨i,d,z,tk⟩:=iq ht;have P9:vs.length=cells.length:=hr.1.symm;have rP:(a.eval y).cells.size=ti.size:=by have:=r1.1;simp at this;omega
    have gS:=l6 (off:=off) hr r1 (by omega);have h3:=hc.set_box hk' hb hh gS (fun d hd=>(kE hd).elim (h1 d) (r2 d));refine⟨.skip,undef,_,?_,.inr ⟨rfl,rfl⟩,c,h3,.any _⟩;have dS:=run_storeCells_at X.P b off T (a.eval y).cells.toList 0 vs.toArray w hh (by simp;omega) eS;have pq:(storeCells ⟨b,off,none⟩ (a.eval y).cells.toList).run X.P w= .ok () (w.setRow b (ay vs off (a.eval y).cells.toList).toArray):=by
     rw[dS];simp[ay]
    have ct:(Instr.storeAt t (a.eval x) (a.eval y)).run X.P w= .ok () (w.setRow b (ay vs off (a.eval y).cells.toList).toArray):=by
     rw[hu];simp[Instr.storeAt,Instr.sureAddr,storeVar,sizeOf,typeInfo,tk.info,tk.size,rP,pq]
    simp only[execOp,ho];rw[Sem.run_bind,ct];rfl
omit hd in
theorem cP {α:Type}{sz:Nat}:∀{rows:List (List α)},(∀r∈rows,r.length=sz)→rows.flatten.length=rows.length*sz
 |[],_=>by simp
 |r::rows,h=>by
  rw[YU,XY,h r (by simp),cP (fun r hr=>h r (by simp[hr])),XA,YY];omega
omit hd in
theorem uS {M:Nat→Prop}{w:World}{sz:Nat}{rows:List (List D)}{ad:Addr}{n cap:Nat}(hs:0 < sz)(h:RepD M w (.sl sz rows) (.slice (some ad) n cap)):
 ∃xs:List Value,xs.length=n*sz∧n=rows.length∧cu M w rows.flatten xs∧(∀j u,xs[j]? =some u→w.cell? (ad.add j)=some u)∧(∀u∈xs,u.oneCell'=true)∧(∀r∈rows,r.length=sz)∧(∀r∈rows,∀d∈r,d.one=true):=by
 cases h with
 |nil _ _ _ hm=>exact⟨[],by simp,rfl,⟨rfl,fun j d x h=>by simp at h⟩,fun j u h=>by simp at h,fun u h=>by simp at h,fun r h=>by simp at h,fun r h=>by simp at h⟩
 |sl _ _ b off cap f hM hb hc hm hr h1 dC bA=>
  have Wq:∀j,j < rows.length*sz→j / sz < rows.length∧j % sz < sz∧j / sz*sz+j % sz=j:=fun j hj=>
   ⟨Zw (by rw[Zp];exact hj),Y' _ hs,by rw[Zp];exact ZN j sz⟩
  have Pr:∀j u,((X5 (rows.length*sz)).map fun j=>f (j / sz) (j % sz))[j]? =some u→j < rows.length*sz∧u=f (j / sz) (j % sz):=by
   intro j u hj;simp only[Xz,XO]at hj;obtain⟨y,hy,rfl⟩:=hj;have hj':j < rows.length*sz:=by
    rcases XP j (rows.length*sz)with h|h
    ·exact h
    ·rw[XT (by simpa using h)]at hy;cases hy
   rw[ZU hj']at hy;cases hy;exact⟨hj',rfl⟩
  have Wr:cu M w rows.flatten ((X5 (rows.length*sz)).map fun j=>f (j / sz) (j % sz)):=by
   refine⟨by rw[cP hr];simp,fun j d x hj hx=>?_⟩;obtain⟨hj',rfl⟩:=Pr j x hx;obtain⟨q1,q2,q3⟩:=Wq j hj';rw[←q3,cE hr _ _ q2]at hj;cases bZ:rows[j / sz]? with
   |none=>rw[bZ]at hj;cases hj
   |some row=>
    rw[bZ]at hj;exact bA _ _ row d bZ hj
  refine⟨_,by simp,rfl,Wr,fun j u hj=>?_,cu.one Wr (fun d hd=>?_),hr,h1⟩
  ·obtain⟨hj',rfl⟩:=Pr j u hj;obtain⟨q1,q2,q3⟩:=Wq j hj';rw[Addr.add_lit];have:=dC _ _ q1 q2;rwa [ZF,q3]at this
  ·obtain⟨r,hr',Ef⟩:=ZW.1 hd;exact h1 r hr' d Ef
omit hd in
theorem zY {P:Program}{w:World}(base:Nat)(t ty e:TypeId)(i:TypeInfo)(z:Value)(size bytes:Nat)(ht:P.underlying t=some (.slice e))(hi:P.info? e=some i)(hz:i.zero=some z)
 (zJ:i.size=size) (Nu:i.bytes=bytes) (MC:z.cells.size=size) (cT:0 < size) (v:Value) (n:Nat) (xs:List Value) (da:w.ownsRow base e size v n xs)
 (a:Addr) (m c:Nat) (news:List Value) (hl:news.length=m*size) (t6:∀j u,news[j]? =some u→w.cell? (a.add j)=some u) (h1:∀u∈news,u.oneCell'=true)
 (Ti:n+m≤maxLen) (qp:(n+m)*bytes≤140737488355328) {v':Value}{w':World} (ct:(Builtin.append_ #[t,t] ty #[v,.slice (some a) m c]).run P w= .ok v' w'):
 v'.ownBlock=v.ownBlock∨∀b,v'.ownBlock=some b→w.heap.size≤b:=by
 subst zJ;subst Nu;simp only[maxLen]at Ti;rcases da.2 with⟨rfl,rfl⟩|⟨g,cap,cur,rfl,cU,hg,Jv,Jw,fq,Ws⟩
 ·by_cases hm:m=0
  ·subst hm;have hn:news=[]:=X9 (by simpa using hl);have:(Builtin.append_ #[t,t] ty #[.slice none 0 0,.slice (some a) 0 c]).run P w= .ok (.slice none 0 0) w:=by
    simp[Builtin.append_,run_underlying ht,sizeOf,typeInfo,hi,Builtin.lenOf,Builtin.firstCells,loadCells,loadCellsFrom]
   rw[this]at ct;cases ct;exact .inl rfl
  ·have hr:=run_append_nil (P:=P) w t ty e i z ht hi hz a m c news hl t6 (by omega) (by omega) (by have hb:=qp;simp only[XG]at hb;omega);rw[hr]at ct;cases ct;refine .inr fun b hb=>?_;simp[Value.ownBlock]at hb;omega
 ·by_cases jl:n+m≤cap
  ·have A3:n*i.size+news.length≤cur.size:=by rw[hl,fq,←ZQ];exact Yt _ jl
   have hr:=run_append_room (P:=P) w t ty e i ht hi g n cap cur hg a m c news hl t6 h1 jl A3;rw[hr]at ct;cases ct;exact .inl rfl
  ·have holds:∀j u,xs[j]? =some u→w.cell? ((⟨g,0,none⟩:Addr).add j)=some u:=da.cells (g:=g) rfl;have hr:=run_append_grow (P:=P) w t ty e i z ht hi hz ⟨g,0,none⟩ n cap xs da.1 holds a m c news hl t6 (by omega) (by omega) (growslice_fits (by omega) qp);rw[hr]at ct;cases ct;refine .inr fun b hb=>?_;simp[Value.ownBlock]at hb;omega
omit hd in
theorem OwnV.of_row {w:World}{base E sz:Nat}{v:Value}{n:Nat}{xs:List Value}(h:w.ownsRow base E sz v n xs):OwnV w E sz v n xs:=by
 have hl:=h.1;rcases h.2 with⟨rfl,rfl⟩|⟨g,cap,cur,rfl,cU,hg,Jv,Jw,fq,ht⟩
 ·have:xs=[]:=X9 (by simpa using hl);subst this;exact .nil
 ·rcases ZJ cap with h0|h0
  ·subst h0;have hn:n=0:=by omega
   subst hn;have:xs=[]:=X9 (by simpa using hl);subst this;exact .zero _
  ·exact .row g n cap cur xs h0 hg Jv Jw fq hl ht
omit hd in
theorem dk {a:Addr}{n cap:Nat}(h:0 < cap):fr (.slice (some a) n cap)=some a.block:=by
 obtain⟨cap,rfl⟩:∃c,cap=c+1:=⟨cap - 1,by omega⟩;rfl
omit hd in
theorem qG {P:Program}{w:World}(t ty e:TypeId)(i:TypeInfo)(z:Value)(size bytes:Nat)(ht:P.underlying t=some (.slice e))(hi:P.info? e=some i)(hz:i.zero=some z)
 (zJ:i.size=size) (Nu:i.bytes=bytes) (MC:z.cells.size=size) (cT:0 < size) (v:Value) (n:Nat) (xs:List Value) (da:OwnV w e size v n xs)
 (a:Addr) (m c:Nat) (news:List Value) (hl:news.length=m*size) (t6:∀j u,news[j]? =some u→w.cell? (a.add j)=some u) (h1:∀u∈news,u.oneCell'=true)
 (Ti:n+m≤maxLen) (qp:(n+m)*bytes≤140737488355328):
 ∃v' w',(Builtin.append_ #[t,t] ty #[v,.slice (some a) m c]).run P w= .ok v' w'∧OwnV w' e size v' (n+m) (xs++news)∧OneB w w' (fr v)∧(fr v'=fr v∨∀b,fr v'=some b→w.heap.size≤b):=by
 have main:∀u,w.ownsRow 0 e size u n xs→(u= .slice none 0 0∨∃g cap,0 < cap∧u= .slice (some ⟨g,0,none⟩) n cap)→
  ∃v' w',(Builtin.append_ #[t,t] ty #[u,.slice (some a) m c]).run P w= .ok v' w'∧OwnV w' e size v' (n+m) (xs++news)∧OneB w w' (fr u)∧(fr v'=fr u∨∀b,fr v'=some b→w.heap.size≤b):=by
  intro u hu hk;obtain⟨v',w',ct,zK,Eg,-⟩:=run_append_own (P:=P) w 0 t ty e i z size bytes ht hi hz zJ Nu MC cT u n xs hu a m c news hl t6 h1 Ti qp (XE _);have Tj:=zY (P:=P) (w:=w) 0 t ty e i z size bytes ht hi hz zJ Nu MC cT u n xs hu a m c news hl t6 h1 Ti qp ct;have hb:u.ownBlock=fr u:=by
   rcases hk with rfl|⟨g,cap,h0,rfl⟩
   ·rfl
   ·rw[dk h0];rfl
  have jm:∀b,fr v'=some b→v'.ownBlock=some b:=by
   intro b hb;cases v' with
   |slice ao k cap=>
    cases ao with
    |none=>cases hb
    |some ad=>cases cap with
     |zero=>cases hb
     |succ cap=>exact hb
   |_=>cases hb
  refine⟨v',w',ct,.of_row zK,⟨Eg.os,Eg.tape,Eg.output,Eg.size,fun b hb' bB=>Eg.block b hb' (fun e=>bB (by rw[←hb];exact e.symm))⟩,?_⟩;rcases Tj with hw|hw
  ·by_cases Jy:∃b,fr v'=some b
   ·obtain⟨b,MD⟩:=Jy;exact .inl (by rw[←hb,←hw,MD,jm b MD])
   ·exact .inr fun b hb=>absurd ⟨b,hb⟩ Jy
  ·exact .inr fun b hb=>hw b (jm b hb)
 cases da with
 |nil=>exact main _ (World.ownsRow_nil w 0 e size) (.inl rfl)
 |row g n cap cur xs h0 hh hn hm hs hl ht=>exact main _ ⟨hl,.inr ⟨g,cap,cur,rfl,XE _,hh,hn,hm,hs,ht⟩⟩ (.inr ⟨g,cap,h0,rfl⟩)
 |zero ad=>
  by_cases hm:m=0
  ·subst hm;have hn:news=[]:=X9 (by simpa using hl);subst hn;refine⟨.slice (some ad) 0 0,w,?_,.zero ad,⟨rfl,rfl,rfl,XB _,fun _ _ _=>rfl⟩,.inl rfl⟩;simp[Builtin.append_,run_underlying ht,sizeOf,typeInfo,hi,Builtin.lenOf,Builtin.firstCells,loadCells,loadCellsFrom,storeCells]
  ·simp only[maxLen]at Ti;have pi:=run_append_nil (P:=P) w t ty e i z ht hi hz a m c news (by rw[zJ];exact hl) t6 (by omega) (by omega) (by rw[Nu];simp only[XG]at qp;omega);have hg:=run_append_grow (P:=P) w t ty e i z ht hi hz ad 0 0 [] (by simp) (fun j v h=>by simp at h) a m c news (by rw[zJ];exact hl) t6 (by omega) (by omega)
    (by rw[Nu];exact growslice_fits (by omega) qp)
   obtain⟨v',w',g1,g2,g3,g4⟩:=main _ (World.ownsRow_nil w 0 e size) (.inl rfl);rw[pi]at g1;simp only[XG]at hg;have e2:(#[]++news.toArray++Builtin.zeroCells z.cells (grownCap w m 0 e - m))=news.toArray++Builtin.zeroCells z.cells (grownCap w m 0 e - m):=by simp
   rw[show ([]:List Value).toArray=#[] from rfl,e2,g1]at hg;exact⟨v',w',hg,g2,g3,g4⟩
omit hd in
theorem l8 {P:Program}{w:World}(t ty e:TypeId)(i:TypeInfo)(size:Nat)(ht:P.underlying t=some (.slice e))(hi:P.info? e=some i)(v:Value)(n:Nat)(xs:List Value)(da:OwnV w e size v n xs)(c:Nat):
 (Builtin.append_ #[t,t] ty #[v,.slice none 0 c]).run P w= .ok v w:=by
 cases da with
 |nil=>simp[Builtin.append_,run_underlying ht,sizeOf,typeInfo,hi,Builtin.lenOf,Builtin.firstCells]
 |zero a=>simp[Builtin.append_,run_underlying ht,sizeOf,typeInfo,hi,Builtin.lenOf,Builtin.firstCells,storeCells]
 |row g n cap cur xs h0 hh hn hm hs hl g7=>simp[Builtin.append_,run_underlying ht,sizeOf,typeInfo,hi,Builtin.lenOf,Builtin.firstCells,hn,storeCells]
omit hd in
theorem iB {rows:List (List D)}{r:List PV}(h:r∈ab rows):∃q∈rows,r=q.map .d:=by
 obtain⟨q,hq,rfl⟩:=XQ.1 h;exact⟨q,hq,rfl⟩
omit hd in
theorem pA (rows:List (List D)):(ab rows).flatten=rows.flatten.map .d:=by
 simp[ab,List.map_flatten]
inductive SrcP (s:FS) (sz:Nat):PV→List (List PV)→List Nat→Prop
 |sl (news:List (List D)):SrcP s sz (.d (.sl sz news)) (ab news) []
 |nil (ao:Option Addr) (c:Nat):SrcP s sz (.d (.v (.slice ao 0 c))) [] []
 |own (k g E:Nat) (rows:List (List PV)) (h:s.heap k= .row E sz g rows):SrcP s sz (.own k g) rows [k]
 |osl (k g E a n:Nat) (rows:List (List PV)) (h:s.heap k= .row E sz g rows):SrcP s sz (.osl k g sz a n) ((rows.drop a).take n) [k]
omit hd in
theorem km {α:Type}{sz:Nat}:∀{rows:List (List α)},(∀r∈rows,r.length=sz)→∀a,(rows.drop a).flatten=rows.flatten.drop (a*sz)
 |rows,_,0=>by simp
 |[],_,a+1=>by simp
 |r::rows,h,a+1=>by
  have hr:=h r (by simp);rw[List.drop_succ_cons,km (fun r hr=>h r (by simp[hr])) a,YU,YY,_d,L' (l:=r) (by omega),Ya,hr];congr 1;omega
omit hd in
theorem iQ {α:Type}{sz:Nat}:∀{rows:List (List α)},(∀r∈rows,r.length=sz)→∀a,(rows.take a).flatten=rows.flatten.take (a*sz)
 |rows,_,0=>by simp
 |[],_,a+1=>by simp
 |r::rows,h,a+1=>by
  have hr:=h r (by simp);rw[ZC,YU,YU,iQ (fun r hr=>h r (by simp[hr])) a,YY,List.take_append,XN (l:=r) (by omega),hr];congr 2;omega
omit hd in
theorem Et {s s':FS}{sz:Nat}{y:PV}{news:List (List PV)}{ty:List Nat}(h:SrcP s sz y news ty)(wZ:0 < sz)(io:∀k∈ty,s'.heap k=s.heap k){a:Act}{w:World}{c:Cx}(hc:RealC X s' a w c){v:Value}(hr:RepP c w y v):
 (∀r∈news,r.length=sz)∧(∀r∈news,∀d∈r,d.one=true)∧((∃c0,v= .slice none 0 c0∧news=[])∨
  ∃(ad:Addr) (cap:Nat) (ys:List Value),v= .slice (some ad) news.length cap∧ys.length=news.length*sz∧(∀j u,ys[j]? =some u→w.cell? (ad.add j)=some u)∧(∀u∈ys,u.oneCell'=true)∧bH c w news.flatten ys):=by
 cases h with
 |sl news=>
  have hr:=cp hr;have some_case:∀(ad:Addr) (n cap:Nat),RepD c.M w (.sl sz news) (.slice (some ad) n cap)→_:=fun ad n cap h=>uS wZ h;have rows_ok:(∀r∈news,r.length=sz)→(∀r∈news,∀d∈r,d.one=true)→(∀r∈ab news,r.length=sz)∧(∀r∈ab news,∀d∈r,d.one=true):=fun g1 g2=>by
   refine⟨fun r hr=>?_,fun r hr d hd=>?_⟩
   ·obtain⟨q,hq,rfl⟩:=iB hr;simpa using g1 q hq
   ·obtain⟨q,hq,rfl⟩:=iB hr;obtain⟨x,hx,rfl⟩:=XQ.1 hd;exact g2 q hq x hx
  have bR:(ab news).length=news.length:=by simp[ab]
  cases hr with
  |nil _ ao cap hm=>
   refine⟨fun r h=>by simp[ab]at h,fun r h=>by simp[ab]at h,?_⟩;cases ao with
   |none=>exact .inl ⟨cap,rfl,rfl⟩
   |some ad=>exact .inr ⟨ad,cap,[],rfl,by simp[ab],fun j u h=>by simp at h,fun u h=>by simp at h,⟨rfl,fun j d x h=>by simp[ab]at h⟩⟩
  |sl _ _ b off cap f a1 a2 a3 a4 a5 a6 a7 a8=>
   obtain⟨ys,y1,-,y2,y3,y4,y5,y6⟩:=uS (w:=w) wZ (RepD.sl (M:=c.M) sz news b off cap f a1 a2 a3 a4 a5 a6 a7 a8);obtain⟨q1,q2⟩:=rows_ok y5 y6;exact⟨q1,q2,.inr ⟨⟨b,off,none⟩,cap,ys,by rw[bR],by rw[bR];exact y1,y3,y4,by rw[pA];exact qD y2⟩⟩
 |nil ao c=>
  have hr:=cp hr;cases hr;cases ao with
  |none=>exact⟨fun r h=>by simp at h,fun r h=>by simp at h,.inl ⟨c,rfl,rfl⟩⟩
  |some ad=>exact⟨fun r h=>by simp at h,fun r h=>by simp at h,.inr ⟨ad,c,[],rfl,by simp,fun j u h=>by simp at h,fun u h=>by simp at h,⟨rfl,fun j d x h=>by simp at h⟩⟩⟩
 |own k g E rows hk=>
  have a9:=hc.chunk k;rw[io k (by simp),hk]at a9;cases hr with
  |own _ _ _ eh _=>
   cases a9 with
   |row _ _ _ _ u xs hu da nF cT h1 hg=>
    rw[eh]at hu;cases hu;refine⟨cT,h1,?_⟩;have eS:=bH.one nF (fun d hd=>by obtain⟨r,hr,hd⟩:=ZW.1 hd;exact h1 r hr d hd);generalize hn:news.length=n' at da;cases da with
    |nil=>exact .inl ⟨0,rfl,X9 hn⟩
    |zero ad=>exact .inr ⟨ad,0,[],rfl,by simp,fun j u h=>by simp at h,fun u h=>by simp at h,nF⟩
    |row gb _ cap cur _ h0 hh Jv hm hs hl ht=>
     refine .inr ⟨⟨gb,0,none⟩,cap,xs,rfl,hl,fun j u hj=>?_,eS,nF⟩;rw[Addr.add_lit];have hlt:j < n'*sz:=by rw[←hl];exact(Xn.1 hj).1
     rw[←ht,XS hlt,X6]at hj;simp[YS,hh,hj]
 |osl k g E st m rows hk=>
  have a9:=hc.chunk k;rw[io k (by simp),hk]at a9;cases hr with
  |osl _ _ _ _ _ b o N cap eh hn Qa ho=>
   cases a9 with
   |row _ _ _ _ u xs hu da nF cT h1 hg=>
    rw[eh]at hu;cases hu;have eS:=bH.one nF (fun d hd=>by obtain⟨r,hr,hd⟩:=ZW.1 hd;exact h1 r hr d hd);refine⟨fun r hr=>cT r (Yd (Yf hr)),fun r hr=>h1 r (Yd (Yf hr)),.inr ⟨⟨b,o,none⟩,cap - st,(xs.drop (st*sz)).take (m*sz),?_⟩⟩;have hN:N=rows.length:=by
     have:=da;generalize rows.length=n' at this;cases this<;>rfl
    have pL:((rows.drop st).take m).length=m:=by rw[Xq,XJ];omega
    have FF:=da.len;have Ry:(st+m)*sz≤rows.length*sz:=Yt sz (by omega);rw[ZQ]at Ry;refine⟨by rw[pL],by rw[pL,Xq,XJ];omega,fun j u hj=>?_,fun u hu=>eS u (Yd (Yf hu)),?_⟩
    ·have hlt:j < m*sz:=by
      have:=(Xn.1 hj).1;rw[Xq]at this;omega
     rw[XS hlt,Yk]at hj;have hm0:0 < m:=by
      rcases ZJ m with h|h
      ·subst h;simp at hlt
      ·exact h
     rw[Addr.add_lit,ho (by omega)];generalize Sp:rows.length=n' at da;cases da with
     |zero=>simp at Sp;omega
     |row _ _ _ cur _ h0 hh Jv hm hs hl ht=>
      rw[←ht,XS (by rw[Sp]at Ry;omega),X6]at hj;simp[YS,hh,hj]
    ·rw[iQ (fun r hr=>cT r (Yd hr)),km cT];exact nF.part _ _
omit hd in
theorem r9 {c:Cx}{w:World}{ds es:List PV}{vs us:List Value}(h:bH c w ds vs)(g:bH c w es us):bH c w (ds++es) (vs++us):=by
 refine⟨by simp[h.1,g.1],fun j d x hj hx=>?_⟩;by_cases hlt:j < ds.length
 ·rw[X2 hlt]at hj;rw[X2 (by rw[←h.1];exact hlt)]at hx;exact h.2 j d x hj hx
 ·rw[XH (by omega)]at hj;rw[XH (by rw[←h.1];omega),←h.1]at hx;exact g.2 _ d x hj hx
theorem Hm {t e k sz g:Nat}{x y:Operand}{ti te:TI}{rows news:List (List PV)}{tyy:List Nat}(ho:o.op= .call {callee:= .builtin .append,args:=#[x,y],argTypes:=#[t,t]})(ht:aU X.P t=some ti)(he':ti.elem=some e)(gR:aU X.P e=some te)
 (cT:te.size=sz) (wZ:0 < sz) (hx:ev s x= .own k g) (hk:s.heap k= .row e sz g rows) (hy:SrcP s sz (ev s y) news tyy)
 (bR:rows.length+news.length≤9223372036854775807) (Nu:(rows.length+news.length)*te.bytes≤140737488355328):
 bJ X ops s o {pv:= .own k (g+1),eff:=[(k,.row e sz (g+1) (rows++news))],touch:=k::tyy}:=
 d6 hd (fun kc h=>by simp at h;subst h;simp) fun s' he io a w c hc=>by
  have e1:=bM hc x;rw[he x (by simp[ho,Op.operands,Call.operands]),hx]at e1;have e2:=bM hc y;rw[he y (by simp[ho,Op.operands,Call.operands])]at e2;have hk':s'.heap k= .row e sz g rows:=by rw[io k (by simp)];exact hk
  have a9:=hc.chunk k;rw[hk']at a9;obtain⟨i,d,z,tk⟩:=iq ht;obtain⟨ie,de,ze,tke⟩:=iq gR;have kh:d= .slice e:=by
   have:=tk.elem;rw[he']at this;cases d<;>simp[gq]at this;rw[this]
  subst kh;have MC:ze.cells.size=sz:=by rw[←cT,←tke.zsize,←tke.zcells];simp
  have DR:∀u v,a.eval x=u→a.eval y=v→∀v' w',(Builtin.append_ #[t,t] o.type #[u,v]).run X.P w= .ok v' w'→(execOp a.eval o).run X.P w= .ok (.value v') w':=by
   intro u v hu hv v' w' hr;simp[execOp,ho,resolve,hu,hv,invoke,builtin,hr]
  generalize hu:a.eval x=u at e1;generalize hv:a.eval y=v at e2;obtain⟨n1,n2,rQ⟩:=Et hy wZ (fun k hk=>io k (Zc _ hk)) hc e2;cases e1 with
  |own _ _ _ eh Bl=>
   cases a9 with
   |row _ _ _ _ u' xs hu' da hr Pq h1 hg=>
    rw[eh]at hu';cases hu';rcases rQ with⟨c0,rfl,rfl⟩|⟨ad,cap,ys,rfl,y1,y2,y3,y4⟩
    ·have ct:=l8 (P:=X.P) t o.type e ie sz tk.und tke.info u rows.length xs da c0;obtain⟨c',q1,q2⟩:=hc.set_row (w':=w) (rows':=rows++[]) (v':=u) (xs':=xs) hk' eh ⟨rfl,rfl,rfl,XB _,fun _ _ _=>rfl⟩ (by rw[Yw];exact da) (.inl rfl) (by rw[Yw];exact hr)
      (by rw[Yw];exact Pq) (by rw[Yw];exact h1)
     exact⟨_,_,_,DR _ _ hu hv _ _ ct,.inl rfl,c',q1,q2⟩
    ·obtain⟨v',w',ct,zK,Eg,Tj⟩:=qG (P:=X.P) (w:=w) t o.type e ie ze sz te.bytes tk.und tke.info tke.zero (tke.size.trans cT) tke.bytes MC wZ u rows.length xs da ad news.length cap ys y1 y2 y3 (by unfold maxLen;exact bR) Nu;obtain⟨c',q1,q2⟩:=hc.set_row (w':=w') (rows':=rows++news) (v':=v') (xs':=xs++ys) hk' eh Eg (by rw[XY];exact zK) Tj (by rw[B'];exact r9 hr y4)
      (fun r hr'=>(X3.1 hr').elim (Pq r) (n1 r)) (fun r hr'=>(X3.1 hr').elim (h1 r) (n2 r))
     exact⟨_,_,_,DR _ _ hu hv _ _ ct,.inl rfl,c',q1,q2⟩
theorem zZ {t e nk sz:Nat}{x y:Operand}{ti te:TI}{news:List (List PV)}{tyy:List Nat}(ho:o.op= .call {callee:= .builtin .append,args:=#[x,y],argTypes:=#[t,t]})(ht:aU X.P t=some ti)(he':ti.elem=some e)(gR:aU X.P e=some te)
 (cT:te.size=sz) (wZ:0 < sz) (hx:ev s x= .d (.v (.slice none 0 0))) (hk:s.heap nk= .none) (t5:¬nk < X.m) (hy:SrcP s sz (ev s y) news tyy)
 (bR:news.length≤9223372036854775807) (Nu:news.length*te.bytes≤140737488355328):
 bJ X ops s o {pv:= .own nk 0,eff:=[(nk,.row e sz 0 news)],touch:=nk::tyy}:=
 d6 hd (fun kc h=>by simp at h;subst h;simp) fun s' he io a w c hc=>by
  have e2:=bM hc y;rw[he y (by simp[ho,Op.operands,Call.operands])]at e2;have hk':s'.heap nk= .none:=by rw[io nk (by simp)];exact hk
  have hu:=df hc ((he x (by simp[ho,Op.operands,Call.operands])).trans hx);obtain⟨i,d,z,tk⟩:=iq ht;obtain⟨ie,de,ze,tke⟩:=iq gR;have kh:d= .slice e:=by
   have:=tk.elem;rw[he']at this;cases d<;>simp[gq]at this;rw[this]
  subst kh;have MC:ze.cells.size=sz:=by rw[←cT,←tke.zsize,←tke.zcells];simp
  generalize hv:a.eval y=v at e2;have DR:∀v' w',(Builtin.append_ #[t,t] o.type #[.slice none 0 0,v]).run X.P w= .ok v' w'→(execOp a.eval o).run X.P w= .ok (.value v') w':=by
   intro v' w' hr;simp[execOp,ho,resolve,hu,hv,invoke,builtin,hr]
  obtain⟨n1,n2,rQ⟩:=Et hy wZ (fun k hk=>io k (Zc _ hk)) hc e2;rcases rQ with⟨c0,rfl,rfl⟩|⟨ad,cap,ys,rfl,y1,y2,y3,y4⟩
  ·have ct:=l8 (P:=X.P) (w:=w) t o.type e ie sz tk.und tke.info (.slice none 0 0) 0 [] .nil c0;obtain⟨c',q1,q2⟩:=hc.new_row (w':=w) hk' t5 e sz [] (.slice none 0 0) [] (Below.refl _ _) .nil (fun b h=>by cases h) ⟨rfl,fun j d x h=>by simp at h⟩ (by simp) (by simp);exact⟨_,_,_,DR _ _ ct,.inl rfl,c',q1,q2⟩
  ·obtain⟨v',w',ct,zK,Eg,Tj⟩:=qG (P:=X.P) (w:=w) t o.type e ie ze sz te.bytes tk.und tke.info tke.zero (tke.size.trans cT) tke.bytes MC wZ (.slice none 0 0) 0 [] .nil ad news.length cap ys y1 y2 y3 (by unfold maxLen;omega) (by rw[XG];exact Nu);have hx':dA w w':=⟨Eg.os,Eg.tape,Eg.output,Eg.size,fun b hb=>Eg.block b hb (fun h=>by cases h)⟩;obtain⟨c',q1,q2⟩:=hc.new_row (w':=w') hk' t5 e sz news v' ys hx' (by rw[XG,Ya]at zK;exact zK) (fun b hb=>by
    rcases Tj with h0|h0
    ·rw[h0]at hb;cases hb
    ·exact h0 b hb) y4 n1 n2
   exact⟨_,_,_,DR _ _ ct,.inl rfl,c',q1,q2⟩
omit hd in
theorem Eu {α:Type}{l m xs:List α}{off:Nat}(h:off+xs.length≤l.length):ay (l++m) off xs=ay l off xs++m:=by
 unfold ay;rw[Yl (by omega),List.drop_append_of_le_length (by omega)];simp
omit hd in
theorem BB {α:Type}{l m xs:List α}{off:Nat}:ay (l++m) (l.length+off) xs=l++ay m off xs:=by
 unfold ay;rw[List.take_append,_d];rw[XN (by omega),L' (by omega)];simp only[Ya,X4];rw[show l.length+off - l.length=off by omega,show l.length+off+xs.length - l.length=off+xs.length by omega]
omit hd in
theorem tu {α:Type}{sz:Nat}:∀{rows:List (List α)},(∀r∈rows,r.length=sz)→∀{i j:Nat}{row ps:List α},rows[i]? =some row→j+ps.length≤sz→(rows.set i (ay row j ps)).flatten=ay rows.flatten (i*sz+j) ps
 |[],_,i,j,row,ps,h,_=>by simp at h
 |r::rows,hl,0,j,row,ps,h,hj=>by
  simp at h;subst h;rw[Xu,YU,YU,Nat.zero_mul,XG,Eu (by rw[hl r (by simp)];exact hj)]
 |r::rows,hl,i+1,j,row,ps,h,hj=>by
  rw[Xx,YU,YU,tu (fun r hr=>hl r (by simp[hr])) (by simpa using h) hj];have hr:=hl r (by simp);rw[show (i+1)*sz+j=r.length+(i*sz+j) by rw[YY];omega,BB]
omit hd in
theorem uT {α:Type}{l xs:List α}{off n:Nat}(h:off+xs.length≤n)(hn:n≤l.length):(ay l off xs).take n=ay (l.take n) off xs:=by
 apply Yj;intro j;rw[iA (by rw[Xq];omega)];by_cases hj:j < n
 ·rw[XS hj,iA (by omega),XS hj]
 ·rw[XT (by rw[Xq];omega),if_neg (by omega),XT (by rw[Xq];omega)]
theorem Ev {t k g sz i j E:Nat}{x y:Operand}{ti:TI}{rows:List (List PV)}{row:List PV}(ho:o.op= .store t x y)(sX:o.dst=none)(ht:aU X.P t=some ti)(hx:ev s x= .rp k g sz i j)(hk:s.heap k= .row E sz g rows)(bZ:rows[i]? =some row)(hy:yy (ev s y)=true)
 (hl:(cV (ev s y)).length=ti.size) (cT:j+ti.size≤sz):bJ X ops s o {pv:= .any,eff:=[(k,.row E sz g (rows.set i (ay row j (cV (ev s y)))))],touch:=[k]}:=
 d6 hd (fun kc h=>by simp at h;subst h;simp) fun s' he io a w c hc=>by
  have e1:=bM hc x;rw[he x (by simp[ho,Op.operands]),hx]at e1;have e2:=bM hc y;rw[he y (by simp[ho,Op.operands])]at e2;obtain⟨r1,r2⟩:=kD e2 hy;have eS:=bH.one r1 r2;have hk':s'.heap k= .row E sz g rows:=by rw[io k (by simp)];exact hk
  have a9:=hc.chunk k;rw[hk']at a9;generalize hu:a.eval x=u at e1;cases e1 with
  |rp _ _ _ _ _ b n cap hb=>
   have bB:rows≠[]:=fun e=>by rw[e]at bZ;cases bZ
   obtain⟨cur,xs,q1,q2,q3,q4,q5,q6,q7,q8,q9,q10,q11⟩:=ef a9 hb bB;have hi:i < rows.length:=(Xn.1 bZ).1;have A0:(i+1)*sz≤rows.length*sz:=Yt sz hi;rw[YY]at A0;obtain⟨ii,d,z,tk⟩:=iq ht;have rP:(a.eval y).cells.size=ti.size:=by have:=r1.1;simp at this;omega
   have dS:=run_storeCells_at X.P b (i*sz+j) E (a.eval y).cells.toList 0 cur w q1 (by simp;omega) eS;have pq:(storeCells ⟨b,i*sz+j,none⟩ (a.eval y).cells.toList).run X.P w= .ok () (w.setRow b (ay cur.toList (i*sz+j) (a.eval y).cells.toList).toArray):=by
    rw[dS];simp[ay]
   have ct:(Instr.storeAt t (a.eval x) (a.eval y)).run X.P w= .ok () (w.setRow b (ay cur.toList (i*sz+j) (a.eval y).cells.toList).toArray):=by
    rw[hu];simp[Instr.storeAt,Instr.sureAddr,storeVar,sizeOf,typeInfo,tk.info,tk.size,rP,pq]
   have DS:0 < cap:=by omega
   have bU:(ay cur.toList (i*sz+j) (a.eval y).cells.toList).length=cur.size:=by rw[bg (by simp;omega)];simp
   have ME:xs=cur.toList.take (rows.length*sz):=by
    apply Yj;intro j';by_cases hj':j' < rows.length*sz
    ·rw[XS hj'];exact(q4 j' hj').symm.trans (by simp)
    ·rw[XT (by omega),XT (by rw[Xq];omega)]
   have ph:(ay xs (i*sz+j) (a.eval y).cells.toList).length=rows.length*sz:=by rw[bg (by simp;omega)];exact q3
   have gS:=hc.put_row (w':=w.setRow b (ay cur.toList (i*sz+j) (a.eval y).cells.toList).toArray) (rows':=rows.set i (ay row j (cV (ev s y)))) (xs':=ay xs (i*sz+j) (a.eval y).cells.toList) hk' hb
    ⟨rfl,rfl,rfl,by simp[ZE],fun b' _ MF=>by
     rw[dk DS]at MF;simp only[ZE,Y9];rw[if_neg (fun e=>MF (by rw[e]))]⟩
    (by
     rw[YV,q7];exact .row b rows.length cap _ _ DS (setRow_heap w b _ _ E _ q1) (by omega) q9 (by simp[bU,q11]) ph (by
      rw[Y1,uT (by simp;omega) (by simp;omega),←ME]))
    (by rw[tu q5 bZ (by omega)];exact l6 q2 r1 (by rw[q2.1];omega))
    (fun r hr=>by
     rcases Y4 hr with h|rfl
     ·exact q5 r h
     ·rw[bg (by rw[q5 row (Xl bZ)];omega)];exact q5 row (Xl bZ))
    (fun r hr d hd=>by
     rcases Y4 hr with h|rfl
     ·exact q6 r h d hd
     ·exact(kE hd).elim (q6 row (Xl bZ) d) (r2 d))
   refine⟨.skip,undef,_,?_,.inr ⟨rfl,rfl⟩,c,gS,.any _⟩;simp only[execOp,ho];rw[Sem.run_bind,ct];rfl
end
section
variable {X:Cfg}{ops:Array Oper}{s:FS}{o:Oper}(hd:∀d,o.dst=some d→d < X.n)
theorem xy {α:Type}{sz:Nat}{rows news:List (List α)}(h:∀r∈rows,r.length=sz)(hn:∀r∈news,r.length=sz)(i:Nat):(ay rows i news).flatten=ay rows.flatten (i*sz) news.flatten:=by
 unfold ay;rw[B',B',iQ h,km h,cP hn,ZQ]
theorem xz (z:Array Value)(n:Nat):(Builtin.zeroCells z n).toList=(XV n z.toList).flatten:=by
 have hl:(Builtin.zeroCells z n).toList.length=n*z.size:=by simp[Builtin.zeroCells]
 have hr:∀r∈XV n z.toList,r.length=z.size:=fun r hr=>by rw[Zv hr];simp
 have G4:(XV n z.toList).flatten.length=n*z.size:=by rw[cP hr];simp
 apply Yj;intro i;by_cases hi:i < n*z.size
 ·have h0:0 < z.size:=by
   rcases ZJ z.size with h|h
   ·rw[h]at hi;omega
   ·exact h
  have e1:i / z.size < n:=Zw (by rw[Zp];exact hi);have e2:i % z.size < z.size:=Y' _ h0;have e3:i / z.size*z.size+i % z.size=i:=by rw[Zp];exact ZN i z.size
  have e4:=cE hr (i / z.size) (i % z.size) e2;rw[e3,ZX,if_pos e1]at e4;rw[e4];simp[Builtin.zeroCells,hi,e2]
 ·rw[XT (by omega),XT (by omega)]
theorem RealC.write_rows {a:Act}{w:World}{c:Cx}(hc:RealC X s a w c){k E sz g:Nat}{rows:List (List PV)}(hk:s.heap k= .row E sz g rows){b n cap:Nat}(hb:c.ov k g=some (.slice (some ⟨b,0,none⟩) n cap))(bB:rows≠[])
 (i:Nat) (news:List (List PV)) (ys:List Value) (hr:bH c w news.flatten ys) (hi:i+news.length≤rows.length) (Ps:∀r∈news,r.length=sz) (Wt:∀r∈news,∀d∈r,d.one=true):
 ∃w',(storeCells ⟨b,i*sz,none⟩ ys).run X.P w= .ok () w'∧RealC X {s with heap:=cH [(k,.row E sz g (ay rows i news))] s.heap} a w' c:=by
 have a9:=hc.chunk k;rw[hk]at a9;obtain⟨cur,xs,q1,q2,q3,q4,q5,q6,q7,q8,q9,q10,q11⟩:=ef a9 hb bB;have eS:=bH.one hr (fun d hd=>by obtain⟨r,hr,hd⟩:=ZW.1 hd;exact Wt r hr d hd);have rP:ys.length=news.length*sz:=by rw[←hr.1,cP Ps]
 have A0:(i+news.length)*sz≤rows.length*sz:=Yt sz hi;rw[ZQ]at A0;have dS:=run_storeCells_at X.P b (i*sz) E ys 0 cur w q1 (by simp;omega) eS;have pq:(storeCells ⟨b,i*sz,none⟩ ys).run X.P w= .ok () (w.setRow b (ay cur.toList (i*sz) ys).toArray):=by
  rw[dS];simp[ay]
 have DS:0 < cap:=by
  have:0 < rows.length:=Zd.2 bB;omega
 have bU:(ay cur.toList (i*sz) ys).length=cur.size:=by rw[bg (by simp;omega)];simp
 have ME:xs=cur.toList.take (rows.length*sz):=by
  apply Yj;intro j';by_cases hj':j' < rows.length*sz
  ·rw[XS hj'];exact(q4 j' hj').symm.trans (by simp)
  ·rw[XT (by omega),XT (by rw[Xq];omega)]
 have ph:(ay xs (i*sz) ys).length=rows.length*sz:=by rw[bg (by omega)];exact q3
 refine⟨_,pq,hc.put_row (rows':=ay rows i news) (xs':=ay xs (i*sz) ys) hk hb ⟨rfl,rfl,rfl,by simp[ZE],fun b' _ MF=>by
  rw[dk DS]at MF;simp only[ZE,Y9];rw[if_neg (fun e=>MF (by rw[e]))]⟩ ?_ ?_ ?_ ?_⟩
 ·rw[bg hi,q7];exact .row b rows.length cap _ _ DS (setRow_heap w b _ _ E _ q1) (by omega) q9 (by simp[bU,q11]) ph (by
   rw[Y1,uT (by omega) (by simp;omega),←ME])
 ·rw[xy q5 Ps];exact l6 q2 hr (by rw[q2.1,cP Ps];omega)
 ·exact fun r hr=>(kE hr).elim (q5 r) (Ps r)
 ·exact fun r hr=>(kE hr).elim (q6 r) (Wt r)
include hd
theorem z0 {t e k sz g n:Nat}{x y:Operand}{ti te:TI}{rows news:List (List PV)}{tyy:List Nat}(ho:o.op= .call {callee:= .builtin .append,args:=#[x,y],argTypes:=#[t,t]})(ht:aU X.P t=some ti)(he':ti.elem=some e)(gR:aU X.P e=some te)
 (cT:te.size=sz) (wZ:0 < sz) (hx:ev s x= .osl k g sz 0 n) (hk:s.heap k= .row e sz g rows) (bB:rows≠[]) (hy:SrcP s sz (ev s y) news tyy) (dE:n+news.length≤rows.length):
 bJ X ops s o {pv:= .osl k g sz 0 (n+news.length),eff:=[(k,.row e sz g (ay rows n news))],touch:=k::tyy}:=
 d6 hd (fun kc h=>by simp at h;subst h;simp) fun s' he io a w c hc=>by
  have e1:=bM hc x;rw[he x (by simp[ho,Op.operands,Call.operands]),hx]at e1;have e2:=bM hc y;rw[he y (by simp[ho,Op.operands,Call.operands])]at e2;have hk':s'.heap k= .row e sz g rows:=by rw[io k (by simp)];exact hk
  obtain⟨i,d,z,tk⟩:=iq ht;obtain⟨ie,de,ze,tke⟩:=iq gR;have kh:d= .slice e:=by
   have:=tk.elem;rw[he']at this;cases d<;>simp[gq]at this;rw[this]
  subst kh;generalize hu:a.eval x=u at e1;generalize hv:a.eval y=v at e2;obtain⟨n1,n2,rQ⟩:=Et hy wZ (fun k hk=>io k (Zc _ hk)) hc e2;cases e1 with
  |osl _ _ _ _ _ b oo N cap eh hn Qa MG=>
   have zI:0 < rows.length:=Zd.2 bB;have a9:=hc.chunk k;rw[hk']at a9;obtain⟨cur,xs,q1,q2,q3,q4,q5,q6,q7,q8,q9,q10,q11⟩:=ef a9 eh bB;obtain rfl:oo=0:=by rw[MG (by omega)];simp
   rcases rQ with⟨c0,rfl,rfl⟩|⟨ad,cap',ys,rfl,rP,dC,eS,nF⟩
   ·obtain⟨w',dS,mL⟩:=hc.write_rows hk' eh bB n [] [] ⟨rfl,fun j d x h=>by simp at h⟩ (by simpa using dE) (fun r h=>by simp at h) (fun r h=>by simp at h);have hw:w'=w:=by simpa[storeCells]using dS.symm
    subst hw;refine⟨_,.slice (some ⟨b,0,none⟩) n (cap - 0),w',?_,.inl rfl,c,mL,?_⟩
    ·simp[execOp,ho,resolve,hu,hv,invoke,builtin,Builtin.append_,run_underlying tk.und,sizeOf,typeInfo,tke.info,Builtin.lenOf,Builtin.firstCells,storeCells,(by omega:n≤cap)]
    ·exact .osl k g sz 0 n b 0 N cap eh (by omega) Qa (fun _=>by simp)
   ·obtain⟨w',dS,mL⟩:=hc.write_rows hk' eh bB n news ys nF dE n1 n2;have UY:=run_firstCells_some (P:=X.P) w sz news.length ad news.length cap' ys rP dC;refine⟨_,.slice (some ⟨b,0,none⟩) (n+news.length) (cap - 0),w',?_,.inl rfl,c,mL,?_⟩
    ·have jl:n+news.length≤cap:=by omega
     have Tk:∀ty,(Builtin.append_ #[t,t] ty #[.slice (some ⟨b,0,none⟩) n (cap - 0),.slice (some ad) news.length cap']).run X.P w= .ok (.slice (some ⟨b,0,none⟩) (n+news.length) (cap - 0)) w':=by
      intro ty;simp[Builtin.append_,run_underlying tk.und,sizeOf,typeInfo,tke.info,tke.size,cT,Builtin.lenOf,jl,UY,Addr.add_lit,dS]
     simp only[Yo]at Tk;simp[execOp,ho,resolve,hu,hv,invoke,builtin,Tk]
    ·exact .osl k g sz 0 _ b 0 N cap eh (by omega) Qa (fun _=>by simp)
theorem BC {t e k sz g st n:Nat}{x:Operand}{ti te:TI}{rows:List (List PV)}(ho:o.op= .call {callee:= .builtin .clear,args:=#[x],argTypes:=#[t]})(ht:aU X.P t=some ti)(he':ti.elem=some e)(gR:aU X.P e=some te)
 (cT:te.size=sz) (hx:ev s x= .osl k g sz st n) (hk:s.heap k= .row e sz g rows) (bB:rows≠[]) (dE:st+n≤rows.length):
 bJ X ops s o {pv:= .d (.v (.tuple #[])),eff:=[(k,.row e sz g (ay rows st (XV n (te.zero.map fun x=> .d (.v x)))))],touch:=[k]}:=
 d6 hd (fun kc h=>by simp at h;subst h;simp) fun s' he io a w c hc=>by
  have e1:=bM hc x;rw[he x (by simp[ho,Op.operands,Call.operands]),hx]at e1;have hk':s'.heap k= .row e sz g rows:=by rw[io k (by simp)];exact hk
  obtain⟨i,d,z,tk⟩:=iq ht;obtain⟨ie,de,ze,tke⟩:=iq gR;have kh:d= .slice e:=by
   have:=tk.elem;rw[he']at this;cases d<;>simp[gq]at this;rw[this]
  subst kh;generalize hu:a.eval x=u at e1;have Qb:te.zero.length=sz:=by rw[tke.zsize,cT]
  have rR:∀x∈te.zero,x.oneCell'=true:=tke.one;cases e1 with
  |osl _ _ _ _ _ b oo N cap eh hn Qa MG=>
   cases n with
   |zero=>
    have gS:ay rows st (XV 0 (te.zero.map fun x=>PV.d (.v x)))=rows:=by simp[ay]
    refine⟨_,.tuple #[],w,?_,.inl rfl,c,?_,.d _ _ (.v _)⟩
    ·simp[execOp,ho,resolve,hu,invoke,builtin,Builtin.clear_,run_underlying tk.und]
    ·rw[gS];have:({env:=s'.env,heap:=cH [(k,.row e sz g rows)] s'.heap}:FS)=s':=by
      cases s' with
      |mk env heap=>
       simp only[FS.mk.injEq,true_and];funext k';rw[qA];show (if k'=k then _ else heap k')=heap k';split
       ·rename_i e;subst e;exact hk'.symm
       ·rfl
     rw[this];exact hc
   |succ n=>
    have zI:0 < rows.length:=Zd.2 bB;obtain rfl:oo=st*sz:=MG (by omega);obtain⟨w',dS,mL⟩:=hc.write_rows hk' eh bB st (XV (n+1) (te.zero.map fun x=> .d (.v x))) (XV (n+1) te.zero).flatten
     ⟨by simp[List.map_replicate],fun j d x hj hx=>by
      have e2:(XV (n+1) (te.zero.map fun x=>PV.d (.v x))).flatten=(XV (n+1) te.zero).flatten.map fun x=>PV.d (.v x):=by rw[List.map_flatten,List.map_replicate]
      rw[e2,Xz,hx]at hj;cases hj;exact .d _ _ (.v _)⟩
     (by simpa using dE) (fun r hr=>by rw[Zv hr];simpa using Qb)
     (fun r hr d hd=>by
      rw[Zv hr]at hd;obtain⟨x,hx,rfl⟩:=XQ.1 hd;exact rR x hx)
    refine⟨_,.tuple #[],w',?_,.inl rfl,c,mL,.d _ _ (.v _)⟩;have Qc:(Builtin.zeroCells ze.cells (n+1)).toList=(XV (n+1) te.zero).flatten:=by
     rw[←tke.zcells];exact xz ze.cells (n+1)
    simp[execOp,ho,resolve,hu,invoke,builtin,Builtin.clear_,run_underlying tk.und,zeroValue,typeInfo,tke.info,tke.zero,Qc,dS]
def FZ:Option PV→Option Nat
 |none=>some 0
 |some (.d (.v (.int _ n)))=>if 0≤n then some n.toNat else none
 |_=>none
def F1 (len:Nat):Option PV→Option Nat
 |none=>some len
 |some (.d (.v (.int _ n)))=>if 0≤n then some n.toNat else none
 |_=>none
omit hd in
theorem nW {P:Program}{t e sz:Nat}{ie:TypeInfo}(ht:P.underlying t=some (.slice e))(hi:P.info? e=some ie)(cT:ie.size=sz)(w:World)(a:Option Addr)(len cap:Nat)(lo hi:Option Value)(l h:Nat)
 (jb:(lo=none∧l=0)∨∃k,lo=some (.int k l)) (j7:(hi=none∧h=len)∨∃k,hi=some (.int k h)) (h1:l≤h) (h2:h≤cap):
 (Instr.sliceAt t (.slice a len cap) lo hi none).run P w= .ok (.slice (if cap=l then a else a.map (·.add (l*sz))) (h - l) (cap - l)) w:=by
 have e1:(0:Int)≤(l:Int):=by omega
 have e2:(0:Int)≤(h:Int):=by omega
 have e3:(l:Int)≤(h:Int):=by omega
 have e4:(h:Int)≤(cap:Int):=by omega
 rcases jb with⟨rfl,rfl⟩|⟨k,rfl⟩<;>rcases j7 with⟨rfl,rfl⟩|⟨k',rfl⟩<;>
  simp[Instr.sliceAt,Instr.slice,run_underlying ht,Instr.sliceBounds,Instr.sliceBound,asIntOf,sizeOf,typeInfo,hi,cT,e1,e2,e3,e4,h1,h2,_g.2 h1,_g.2 h2,_g.2 (Yz h1 h2),Yz h1 h2]
omit hd in
theorem Hn {P:Program}{t e sz:Nat}{ie:TypeInfo}(ht:P.underlying t=some (.slice e))(hi:P.info? e=some ie)(cT:ie.size=sz)(w:World)(a:Option Addr)(len cap:Nat)(k1 k2 k3:IntKind)(l h m:Nat)
 (h1:l≤h) (h2:h≤m) (h3:m≤cap):∃v,(Instr.sliceAt t (.slice a len cap) (some (.int k1 l)) (some (.int k2 h)) (some (.int k3 m))).run P w= .ok v w:=by
 have e1:(0:Int)≤(l:Int):=by omega
 have e2:(0:Int)≤(h:Int):=by omega
 have e3:(l:Int)≤(h:Int):=by omega
 have e4:(h:Int)≤(m:Int):=by omega
 have e5:(0:Int)≤(m:Int):=by omega
 have e6:(m:Int)≤(cap:Int):=by omega
 simp[Instr.sliceAt,Instr.slice,run_underlying ht,Instr.sliceBounds,Instr.sliceBound,asIntOf,sizeOf,typeInfo,hi,cT,e1,e2,e3,e4,e5,e6,h1,h2,h3]
omit hd in
theorem nX {s':FS}{a:Act}{w:World}{c:Cx}(hc:RealC X s' a w c){lo:Option Operand}{l:Nat}(h:FZ (lo.map (ev s'))=some l):((lo.map a.eval)=none∧l=0)∨∃k,lo.map a.eval=some (.int k l):=by
 cases lo with
 |none=>exact .inl ⟨rfl,by simpa[FZ]using h.symm⟩
 |some x=>
  right;simp only[Ye]at h ⊢;unfold FZ at h;split at h
  ·rename_i e;cases e
  ·rename_i k n e;have:=df hc (XX.inj e);split at h
   ·rename_i h0;have h:=XX.inj h;exact⟨k,by rw[this,←h,ZV h0]⟩
   ·cases h
  ·cases h
omit hd in
theorem nY {s':FS}{a:Act}{w:World}{c:Cx}(hc:RealC X s' a w c){lo:Option Operand}{len l:Nat}(h:F1 len (lo.map (ev s'))=some l):((lo.map a.eval)=none∧l=len)∨∃k,lo.map a.eval=some (.int k l):=by
 cases lo with
 |none=>exact .inl ⟨rfl,by simpa[F1]using h.symm⟩
 |some x=>
  right;simp only[Ye]at h ⊢;unfold F1 at h;split at h
  ·rename_i e;cases e
  ·rename_i k n e;have:=df hc (XX.inj e);split at h
   ·rename_i h0;have h:=XX.inj h;exact⟨k,by rw[this,←h,ZV h0]⟩
   ·cases h
  ·cases h
omit hd in
theorem uU {s':FS}{lo:Option Operand}(h:∀x,lo=some x→ev s' x=ev s x):lo.map (ev s')=lo.map (ev s):=by
 cases lo with
 |none=>rfl
 |some x=>simp[h x rfl]
theorem Ho {t e sz:Nat}{x:Operand}{lo hi:Option Operand}{ti te:TI}{rows:List (List D)}{l h:Nat}(ho:o.op= .slice t x lo hi none)(ht:aU X.P t=some ti)(he':ti.elem=some e)(gR:aU X.P e=some te)(cT:te.size=sz)
 (hx:ev s x= .d (.sl sz rows)) (jb:FZ (lo.map (ev s))=some l) (j7:F1 rows.length (hi.map (ev s))=some h) (h1:l≤h) (h2:h≤rows.length):bJ X ops s o {pv:= .d (.sl sz ((rows.take h).drop l))}:=
 aM hd fun s' he _ a w c hc=>by
  have e1:=bM hc x;rw[he x (by simp[ho,Op.operands]),hx]at e1;rw[←uU (s:=s) (s':=s') (fun y hy=>he y (by simp[ho,Op.operands,hy]))]at jb j7;have b1:=nX hc jb;have b2:=nY hc j7;generalize hu:a.eval x=u at e1;have e1:=cp e1;obtain⟨i,d,z,tk⟩:=iq ht;obtain⟨ie,de,ze,tke⟩:=iq gR;have kh:d= .slice e:=by
   have:=tk.elem;rw[he']at this;cases d<;>simp[gq]at this;rw[this]
  subst kh;cases e1 with
  |nil _ ao cap hm=>
   have hr:=nW tk.und tke.info (tke.size.trans cT) w ao 0 cap _ _ l h b1 b2 h1 (by simp at h2;omega);refine⟨_,by simp only[execOp,ho,hu,Zg];rw[Sem.run_bind,hr];rfl,.d _ _ ?_⟩;simp only[XZ,Nat.le_zero]at h2;subst h2;simp only[Z4,List.drop_nil];rw[Nat.zero_sub];exact .nil _ _ _ (by omega)
  |sl _ _ b off cap f hM hb fV hm hr h1' dC bA=>
   have hr':=nW tk.und tke.info (tke.size.trans cT) w (some ⟨b,off,none⟩) rows.length cap _ _ l h b1 b2 h1 (by omega);refine⟨_,by simp only[execOp,ho,hu,Zg];rw[Sem.run_bind,hr'];rfl,.d _ _ ?_⟩;have hl:((rows.take h).drop l).length=h - l:=by rw[XJ,Xq];omega
   by_cases UZ:cap=l
   ·obtain rfl:h=l:=by omega
    have:(rows.take h).drop h=[]:=X9 (by rw[hl];omega);rw[this,YG];exact .nil _ _ _ (by omega)
   ·rw[if_neg UZ,←hl];simp only[Ye,Addr.add_lit];have Pr:∀i row,((rows.take h).drop l)[i]? =some row→rows[l+i]? =some row:=by
     intro i row hi;rw[Yk]at hi;have:=(Xn.1 hi).1;rw[Xq]at this;rwa [XS (by omega)]at hi
    refine .sl sz _ b (off+l*sz) (cap - l) (fun i j=>f (l+i) j) hM hb (by omega) (by omega) (fun r Sq=>hr r (Yf (Yd Sq))) (fun r Sq=>h1' r (Yf (Yd Sq))) (fun i j hi hj=>?_) (fun i j row d hi hj=>bA _ _ row d (Pr i row hi) hj);have:=dC (l+i) j (by omega) hj;rw[ZQ]at this;rw[←this];congr 2;omega
theorem BD {t e k g sz:Nat}{x:Operand}{lo hi:Option Operand}{ti te:TI}{rows:List (List PV)}{l h:Nat}(ho:o.op= .slice t x lo hi none)(ht:aU X.P t=some ti)(he':ti.elem=some e)(gR:aU X.P e=some te)(cT:te.size=sz)
 (hx:ev s x= .own k g) (hk:s.heap k= .row e sz g rows) (bB:rows≠[]) (jb:FZ (lo.map (ev s))=some l) (j7:F1 rows.length (hi.map (ev s))=some h) (h1:l≤h) (h2:h≤rows.length):bJ X ops s o {pv:= .osl k g sz l (h - l),touch:=[k]}:=
 aM hd fun s' he io a w c hc=>by
  have e1:=bM hc x;rw[he x (by simp[ho,Op.operands]),hx]at e1;rw[←uU (s:=s) (s':=s') (fun y hy=>he y (by simp[ho,Op.operands,hy]))]at jb j7;have b1:=nX hc jb;have b2:=nY hc j7;have a9:=hc.chunk k;rw[io k (by simp),hk]at a9;generalize hu:a.eval x=u at e1;obtain⟨i,d,z,tk⟩:=iq ht;obtain⟨ie,de,ze,tke⟩:=iq gR;have kh:d= .slice e:=by
   have:=tk.elem;rw[he']at this;cases d<;>simp[gq]at this;rw[this]
  subst kh;cases e1 with
  |own _ _ _ eh Bl=>
   obtain⟨b,cap,rfl⟩:=l7 a9 eh bB;obtain⟨cur,xs,q1,q2,q3,q4,q5,q6,q7,q8,q9,q10,q11⟩:=ef a9 eh bB;have hr':=nW tk.und tke.info (tke.size.trans cT) w (some ⟨b,0,none⟩) rows.length cap _ _ l h b1 b2 h1 (by omega);refine⟨_,by simp only[execOp,ho,hu,Zg];rw[Sem.run_bind,hr'];rfl,?_⟩;by_cases fV:cap=l
   ·rw[if_pos fV];exact .osl k g sz l (h - l) b 0 _ cap eh (by omega) q10 (by omega)
   ·rw[if_neg fV];simp only[Ye,Addr.add_lit,XG];exact .osl k g sz l (h - l) b _ _ cap eh (by omega) q10 (fun _=>rfl)
theorem Aa {t e k g sz:Nat}{x:Operand}{lo hi:Option Operand}{ti te:TI}(ho:o.op= .slice t x lo hi none)(ht:aU X.P t=some ti)(he':ti.elem=some e)(gR:aU X.P e=some te)(cT:te.size=sz)
 (hx:ev s x= .own k g) (hk:s.heap k= .row e sz g []) (jb:FZ (lo.map (ev s))=some 0) (j7:F1 0 (hi.map (ev s))=some 0):bJ X ops s o {pv:= .any,touch:=[k]}:=
 aM hd fun s' he io a w c hc=>by
  have e1:=bM hc x;rw[he x (by simp[ho,Op.operands]),hx]at e1;rw[←uU (s:=s) (s':=s') (fun y hy=>he y (by simp[ho,Op.operands,hy]))]at jb j7;have b1:=nX hc jb;have b2:=nY hc j7;have a9:=hc.chunk k;rw[io k (by simp),hk]at a9;generalize hu:a.eval x=u at e1;obtain⟨i,d,z,tk⟩:=iq ht;obtain⟨ie,de,ze,tke⟩:=iq gR;have kh:d= .slice e:=by
   have:=tk.elem;rw[he']at this;cases d<;>simp[gq]at this;rw[this]
  subst kh;cases e1 with
  |own _ _ _ eh Bl=>
   cases a9 with
   |row _ _ _ _ u' xs hu' da hr Pq h1 hg=>
    rw[eh]at hu';cases hu';obtain⟨ao,cap,rfl⟩:∃ao cap,u= .slice ao 0 cap:=by
     simp only[XZ]at da;generalize hz:0=z at da;cases da with
     |nil=>exact⟨_,_,rfl⟩
     |zero=>exact⟨_,_,rfl⟩
     |row=>subst hz;exact⟨_,_,rfl⟩
    have hr':=nW tk.und tke.info (tke.size.trans cT) w ao 0 cap _ _ 0 0 b1 b2 (XB _) (XE _);exact⟨_,by simp only[execOp,ho,hu,Zg];rw[Sem.run_bind,hr'];rfl,.any _⟩
theorem BE {t e k g sz st n:Nat}{x:Operand}{lo hi:Option Operand}{ti te:TI}{rows:List (List PV)}{l h:Nat}(ho:o.op= .slice t x lo hi none)(ht:aU X.P t=some ti)(he':ti.elem=some e)(gR:aU X.P e=some te)(cT:te.size=sz)
 (hx:ev s x= .osl k g sz st n) (hk:s.heap k= .row e sz g rows) (bB:rows≠[]) (jb:FZ (lo.map (ev s))=some l) (j7:F1 n (hi.map (ev s))=some h) (h1:l≤h) (h2:st+h≤rows.length):bJ X ops s o {pv:= .osl k g sz (st+l) (h - l),touch:=[k]}:=
 aM hd fun s' he io a w c hc=>by
  have e1:=bM hc x;rw[he x (by simp[ho,Op.operands]),hx]at e1;rw[←uU (s:=s) (s':=s') (fun y hy=>he y (by simp[ho,Op.operands,hy]))]at jb j7;have b1:=nX hc jb;have b2:=nY hc j7;have a9:=hc.chunk k;rw[io k (by simp),hk]at a9;generalize hu:a.eval x=u at e1;obtain⟨i,d,z,tk⟩:=iq ht;obtain⟨ie,de,ze,tke⟩:=iq gR;have kh:d= .slice e:=by
   have:=tk.elem;rw[he']at this;cases d<;>simp[gq]at this;rw[this]
  subst kh;cases e1 with
  |osl _ _ _ _ _ b oo N cap eh hn Qa MG=>
   obtain⟨cur,xs,q1,q2,q3,q4,q5,q6,q7,q8,q9,q10,q11⟩:=ef a9 eh bB;have hr':=nW tk.und tke.info (tke.size.trans cT) w (some ⟨b,oo,none⟩) n (cap - st) _ _ l h b1 b2 h1 (by omega);refine⟨_,by simp only[execOp,ho,hu,Zg];rw[Sem.run_bind,hr'];rfl,?_⟩;rw[Nat.sub_sub];by_cases fV:cap - st=l
   ·rw[if_pos fV];exact .osl k g sz (st+l) (h - l) b oo _ cap eh (by omega) q10 (by omega)
   ·rw[if_neg fV];simp only[Ye,Addr.add_lit];exact .osl k g sz (st+l) (h - l) b _ _ cap eh (by omega) q10 (fun hlt=>by rw[MG (by omega),ZQ])
theorem Hp {t e k g sz:Nat}{x y1 y2 y3:Operand}{ti te:TI}{rows:List (List PV)}{k1 k2 k3:IntKind}{n1 n2 n3:Int}(ho:o.op= .slice t x (some y1) (some y2) (some y3))(ht:aU X.P t=some ti)(he':ti.elem=some e)(gR:aU X.P e=some te)(cT:te.size=sz)
 (hx:ev s x= .own k g) (hk:s.heap k= .row e sz g rows) (bB:rows≠[]) (Pt:ev s y1= .d (.v (.int k1 n1))) (Nv:ev s y2= .d (.v (.int k2 n2))) (hy3:ev s y3= .d (.v (.int k3 n3))) (h0:0≤n1) (h1:n1≤n2) (h2:n2≤n3) (h3:n3≤(rows.length:Int)):
 bJ X ops s o {pv:= .any,touch:=[k]}:=
 aM hd fun s' he io a w c hc=>by
  have e1:=bM hc x;rw[he x (by simp[ho,Op.operands]),hx]at e1;have b1:=df hc ((he y1 (by simp[ho,Op.operands])).trans Pt);have b2:=df hc ((he y2 (by simp[ho,Op.operands])).trans Nv);have b3:=df hc ((he y3 (by simp[ho,Op.operands])).trans hy3);have a9:=hc.chunk k;rw[io k (by simp),hk]at a9;generalize hu:a.eval x=u at e1;obtain⟨i,d,z,tk⟩:=iq ht;obtain⟨ie,de,ze,tke⟩:=iq gR;have kh:d= .slice e:=by
   have:=tk.elem;rw[he']at this;cases d<;>simp[gq]at this;rw[this]
  subst kh;cases e1 with
  |own _ _ _ eh Bl=>
   obtain⟨b,cap,rfl⟩:=l7 a9 eh bB;obtain⟨cur,xs,q1,q2,q3,q4,q5,q6,q7,q8,q9,q10,q11⟩:=ef a9 eh bB;obtain⟨v,hr⟩:=Hn tk.und tke.info (tke.size.trans cT) w (some ⟨b,0,none⟩) rows.length cap k1 k2 k3 n1.toNat n2.toNat n3.toNat (by omega) (by omega) (by omega);rw[ZV h0,ZV (by omega),ZV (by omega)]at hr;exact⟨v,by simp only[execOp,ho,hu,Ye,b1,b2,b3];rw[Sem.run_bind,hr];rfl,.any _⟩
theorem Hq {t k g sz st n:Nat}{x:Operand}{e:Nat}{ti:TI}(ho:o.op= .call {callee:= .builtin .len,args:=#[x],argTypes:=#[t]})(ht:aU X.P t=some ti)(he':ti.elem=some e)(hx:ev s x= .osl k g sz st n):
 bJ X ops s o {pv:= .d (.v (.int .i64 n))}:=
 aM hd fun s' he _ a w c hc=>by
  have e1:=bM hc x;rw[he x (by simp[ho,Op.operands,Call.operands]),hx]at e1;generalize hu:a.eval x=u at e1;obtain⟨i,dd,z,tk⟩:=iq ht;have kh:dd= .slice e:=by
   have:=tk.elem;rw[he']at this;cases dd<;>simp[gq]at this;rw[this]
  subst kh;cases e1 with
  |osl=>
   refine⟨.int .i64 n,?_,.d _ _ (.v _)⟩;simp[execOp,ho,hu,resolve,invoke,builtin,Builtin.len_,run_underlying tk.und,goInt]
theorem BF {t e k g sz st m:Nat}{x y:Operand}{ti te:TI}{kd:IntKind}{n:Int}(ho:o.op= .indexAddr t x y)(ht:aU X.P t=some ti)(he':ti.elem=some e)(gR:aU X.P e=some te)(cT:te.size=sz)
 (hx:ev s x= .osl k g sz st m) (hy:ev s y= .d (.v (.int kd n))) (hn:0≤n) (hlt:n.toNat < m):bJ X ops s o {pv:= .rp k g sz (st+n.toNat) 0}:=
 aM hd fun s' he _ a w c hc=>by
  have e1:=bM hc x;rw[he x (by simp[ho,Op.operands]),hx]at e1;have e2:=df hc ((he y (by simp[ho,Op.operands])).trans hy);generalize hu:a.eval x=u at e1;obtain⟨i,d,z,tk⟩:=iq ht;obtain⟨ie,de,ze,tke⟩:=iq gR;have kh:d= .slice e:=by
   have:=tk.elem;rw[he']at this;cases d<;>simp[gq]at this;rw[this]
  subst kh;cases e1 with
  |osl _ _ _ _ _ b oo N cap eh Sp Qa MG=>
   have rN:0≤n∧n < (m:Int):=⟨hn,by omega⟩;refine⟨.pointer (some ⟨b,(st+n.toNat)*sz+0,none⟩),?_,.rp k g sz _ _ b _ cap eh⟩;rw[ZQ,←MG (by omega)];simp[execOp,ho,hu,e2,Instr.indexAt,asIntOf,run_underlying tk.und,rN,sizeOf,typeInfo,tke.info,tke.size,cT,Addr.add_lit]
end
def kF:List (List Int × Int)→List Int→Option Int
 |[],_=>none
 |(k,v)::l,ks=>if k=ks then some v else kF l ks
def l9:List (List Int × Int)→List Int→Int→List (List Int × Int)
 |[],ks,v=>[(ks,v)]
 |(k,x)::l,ks,v=>if k=ks then (ks,v)::l else (k,x)::l9 l ks v
theorem gX:∀(l:List (List Int × Int)) (ks:List Int) (v:Int) (ks':List Int),kF (l9 l ks v) ks'=if ks=ks' then some v else kF l ks'
 |[],ks,v,ks'=>rfl
 |(k,x)::l,ks,v,ks'=>by
  unfold l9;by_cases h:k=ks
  ·subst h;rw[if_pos rfl];by_cases h':k=ks'
   ·simp[kF,h']
   ·simp[kF,h']
  ·rw[if_neg h];unfold kF;rw[gX l ks v ks'];by_cases h':k=ks'
   ·subst h';simp[Ne.symm h]
   ·simp[h']
theorem F3 {n:Nat}:∀{l:List (List Int × Int)}{ks:List Int}{v:Int},(∀kv∈l,kv.1.length=n)→ks.length=n→∀kv∈l9 l ks v,kv.1.length=n
 |[],ks,v,_,hk=>fun kv h=>by simp[l9]at h;rw[h];exact hk
 |(k,x)::l,ks,v,hl,hk=>fun kv h=>by
  unfold l9 at h;split at h
  ·rcases X7.1 h with rfl|h
   ·exact hk
   ·exact hl kv (by simp[h])
  ·rcases X7.1 h with rfl|h
   ·exact hl _ (by simp)
   ·exact F3 (fun kv h=>hl kv (by simp[h])) hk kv h
def pN:List (List Int × Int)→List Int→Nat→Option (Nat × Value)
 |[],_,_=>none
 |(k,v)::l,ks,i=>if k=ks then some (i,.int .i64 v)else pN l ks (i+1)
theorem F4:∀(l:List (List Int × Int)) (ks:List Int) (i:Nat),(pN l ks i).map (·.2)=(kF l ks).map (.int .i64)
 |[],_,_=>rfl
 |(k,v)::l,ks,i=>by
  unfold pN kF;split
  ·rfl
  ·exact F4 l ks (i+1)
theorem yB (s:Bool):∀(l:List (List Int × Int)) (ks:List Int) (v:Int) (i j:Nat) (u:Value),pN l ks i=some (j,u)→i≤j∧(∃e,(bv s l i)[j - i]? =some e∧e.key=jd s ks)∧(bv s l i).modify (j - i) (fun e=>{e with key:=jd s ks,val:= .int .i64 v})=bv s (l9 l ks v) i∧(l9 l ks v).length=l.length
 |[],_,_,_,_,_,h=>by cases h
 |(k,x)::l,ks,v,i,j,u,h=>by
  unfold pN at h;by_cases hk:k=ks
  ·rw[if_pos hk]at h;cases h;subst hk;refine⟨XB _,⟨_,by rw[YG];rfl,rfl⟩,?_,?_⟩
   ·rw[YG];simp[bv,l9]
   ·simp[l9]
  ·rw[if_neg hk]at h;obtain⟨h1,⟨e,h2,h3⟩,h4,h5⟩:=yB s l ks v (i+1) j u h;have hj:j - i=(j - (i+1))+1:=by omega
   refine⟨by omega,⟨e,by rw[hj];simpa[bv]using h2,h3⟩,?_,?_⟩
   ·rw[hj];unfold l9;rw[if_neg hk];simp only[bv,List.modify_succ_cons];rw[h4]
   ·unfold l9;rw[if_neg hk];simp[h5]
theorem yC (s:Bool):∀(l:List (List Int × Int)) (ks:List Int) (v:Int) (i:Nat),pN l ks i=none→bv s (l9 l ks v) i=bv s l i++[{key:=jd s ks,val:= .int .i64 v,born:=i+l.length}]∧(l9 l ks v).length=l.length+1
 |[],_,_,_,_=>⟨rfl,rfl⟩
 |(k,x)::l,ks,v,i,h=>by
  unfold pN at h;by_cases hk:k=ks
  ·rw[if_pos hk]at h;cases h
  ·rw[if_neg hk]at h;obtain⟨h1,h2⟩:=yC s l ks v (i+1) h;unfold l9;rw[if_neg hk];simp only[bv,h1,X8,XA,h2,and_true];rw[show i+1+l.length=i+(l.length+1) by omega]
structure KeyOK (P:Program)(k n:Nat)(s:Bool):Prop where
 chk:∀(em:Bool) (w:World) (xs:List Int),xs.length=n→(Instr.checkKey em 10000 k (jd s xs)).run P w= .ok () w
 fnd:∀(w:World) (ents:List (List Int × Int)) (xs:List Int),(∀kv∈ents,kv.1.length=n)→xs.length=n→(Instr.findKey k (jd s xs) (bv s ents 0)).run P w= .ok (pN ents xs 0) w
structure MapOK (P:Program)(t n:Nat)(s:Bool):Prop where
 ex:∃k e i,P.underlying t=some (.map k e)∧P.info? e=some i∧i.zero=some (.int .i64 0)∧KeyOK P k n s
theorem Ew {xs:List Int}(h:xs.length=1):∃a,xs=[a]:=by
 match xs,h with
 |[a],_=>exact⟨a,rfl⟩
theorem Hr {P:Program}{k:Nat}(hk:P.underlying k=some (.int .i64)):KeyOK P k 1 false:=by
 refine⟨fun em w xs hx=>?_,fun w ents xs hn hx=>?_⟩
 ·obtain⟨a,rfl⟩:=Ew hx;exact MapKept.run_checkKey hk (by simp[jd,MapKept.IsKey]) em 9999
 ·obtain⟨a,rfl⟩:=Ew hx;refine MapKept.run_findKey hk ?_;have:∀(l:List (List Int × Int)) (i:Nat),(∀kv∈l,kv.1.length=1)→Instr.findNow (.int .i64) (.int .i64 a) (bv false l i) i=some (pN l [a] i):=by
   intro l;induction l with
   |nil=>intro i _;rfl
   |cons kv l ih=>
    intro i hl;obtain⟨k,v⟩:=kv;obtain⟨c,rfl⟩:=Ew (hl (k,v) (by simp));have ih:=ih (i+1) (fun kv h=>hl kv (by simp[h]));by_cases h:c=a
    ·subst h;simp[bv,pN,Instr.findNow,Instr.sameNow,jd]
    ·have h':(a==c)=false:=by simpa using fun e=>h e.symm
     simp[bv,pN,Instr.findNow,Instr.sameNow,jd,h,ih];rw[h']
  exact this ents 0 hn
theorem JT {P:Program}{k n:Nat}(hw:(match P.underlying k with|some (.array _ _)|some (.struct _)=>true|_=>false)=true)(hc:∀(em:Bool) (w:World) (xs:List Int),xs.length=n→(Instr.checkKey em 10000 k (jd true xs)).run P w= .ok () w)
 (he:∀(w:World) (xs ys:List Int),xs.length=n→ys.length=n→(Op.equal k (jd true xs) (jd true ys)).run P w= .ok (xs==ys) w):KeyOK P k n true:=by
 refine⟨hc,fun w ents xs hn hx=>?_⟩;rw[run_findKey_eq w hw];have:∀(l:List (List Int × Int)) (i:Nat),(∀kv∈l,kv.1.length=n)→(Instr.findAsking k (jd true xs) (bv true l i) i).run P w= .ok (pN l xs i) w:=by
  intro l;induction l with
  |nil=>intro i _;rfl
  |cons kv l ih=>
   intro i hl;obtain⟨k',v⟩:=kv;have ih:=ih (i+1) (fun kv h=>hl kv (by simp[h]));have h0:=he w xs k' hx (hl (k',v) (by simp));simp only[bv,Instr.findAsking];rw[Sem.run_bind,h0];simp only[Result.andThen,pN];by_cases h:k'=xs
   ·subst h;simp
   ·have h':(xs==k')=false:=by simpa using fun e=>h e.symm
    rw[h',if_neg h];exact ih
 exact this ents 0 hn
theorem yD {P:Program}{t k e:Nat}(ht:P.underlying t=some (.map k e))(hk:P.underlying k=some (.int .i64))(hz:(P.info? e).map (·.zero)=some (some (.int .i64 0))):MapOK P t 1 false:=by
 obtain⟨i,hi,hz⟩:=XO.1 hz;exact⟨k,e,i,ht,hi,hz,Hr hk⟩
theorem Ex {P:Program}{t n b:Nat}{s:Bool}(hm:MapOK P t n s){w:World}{ents:List (List Int × Int)}(hb:w.heap[b]? =some (.map (bv s ents 0).toArray ents.length))(hn:∀kv∈ents,kv.1.length=n){xs:List Int}(hx:xs.length=n)(ok:Bool):
 (Instr.lookup t (.map (some b)) (jd s xs) ok).run P w= .ok (if ok then .tuple #[.int .i64 ((kF ents xs).getD 0),.bool (kF ents xs).isSome]else .int .i64 ((kF ents xs).getD 0)) w:=by
 obtain⟨k,e,i,ht,hi,hz,hk⟩:=hm.ex;have hl:=F4 ents xs 0;unfold Instr.lookup;simp only[Sem.run_bind,run_underlying ht,Result.andThen,MapKept.run_getObj_map hb,Sem.run_pure,hk.chk _ _ _ hx,hk.fnd _ _ _ hn hx];cases hf:pN ents xs 0 with
 |none=>
  rw[hf]at hl;have hl':kF ents xs=none:=by
   cases h:kF ents xs with
   |none=>rfl
   |some v=>rw[h]at hl;cases hl
  rw[hl'];simp only[Sem.run_bind,zeroValue,typeInfo,run_program,hi,hz,Result.andThen,Sem.run_pure];cases ok<;>rfl
 |some iv=>
  rw[hf]at hl;cases h:kF ents xs with
  |none=>rw[h]at hl;cases hl
  |some v=>
   rw[h]at hl;simp only[Ye,XX.injEq]at hl;simp only[Sem.run_pure,Result.andThen,hl];cases ok<;>rfl
theorem Ab (s:Bool)(xs:List Int):Instr.sameBits 10000 (jd s xs) (jd s xs)=true:=by
 cases s with
 |false=>simp[jd,Instr.sameBits]
 |true=>
  have:∀(l:List Int),((l.map (Value.int .i64)).zip (l.map (Value.int .i64))).all (fun(x,y)=>Instr.sameBits 9999 x y)=true:=by
   intro l;induction l with
   |nil=>rfl
   |cons a l ih=>simp only[Xm,List.zip_cons_cons,List.all_cons,ih,YA];simp[Instr.sameBits]
  simp only[jd,if_true,Instr.sameBits,beq_self_eq_true,Yr];exact this xs
theorem xA {P:Program}{t n b:Nat}{s:Bool}(hm:MapOK P t n s){w:World}{ents:List (List Int × Int)}(hb:w.heap[b]? =some (.map (bv s ents 0).toArray ents.length))(hn:∀kv∈ents,kv.1.length=n){xs:List Int}(hx:xs.length=n)(v:Int):
 (Instr.mapUpdate t (.map (some b)) (jd s xs) (.int .i64 v)).run P w= .ok () {w with heap:=w.heap.setIfInBounds b (.map (bv s (l9 ents xs v) 0).toArray (l9 ents xs v).length)}:=by
 obtain⟨k,e,i,ht,hi,hz,hk⟩:=hm.ex;unfold Instr.mapUpdate;simp only[Sem.run_bind,run_underlying ht,Result.andThen,MapKept.run_getObj_map hb,hk.chk _ _ _ hx,hk.fnd _ _ _ hn hx];cases hf:pN ents xs 0 with
 |none=>
  obtain⟨h1,h2⟩:=yC s ents xs v 0 hf;simp only[MapKept.run_setObj_map _ hb];rw[h1,h2];simp
 |some iv=>
  obtain⟨j,u⟩:=iv;obtain⟨-,⟨e0,h2,h3⟩,h4,h5⟩:=yB s ents xs v 0 j u hf;rw[Yo]at h2 h4;have h6:(bv s ents 0).toArray[j]? =some e0:=by simpa using h2
  simp only[Sem.run_bind,h6,Ye,YI,h3,Instr.keyThatStays,Ab,if_true,Sem.run_pure,Result.andThen,MapKept.run_setObj_map _ hb];rw[h5,←h4];simp
def Ey (s:Bool)(p:PV):Option (List Int):=
 match s,p with
 |false,.d (.v (.int .i64 a))=>some [a]
 |true,.d (.agg ds)=>py ds
 |_,_=>none
theorem BG {c:Cx}{w:World}{s:Bool}{p:PV}{xs:List Int}{v:Value}(h:Ey s p=some xs)(hr:RepP c w p v):v=jd s xs:=by
 unfold Ey at h;split at h
 ·cases h;cases hr with|d _ _ hd=>cases hd;rfl
 ·cases hr with
  |d _ _ hd=>
   cases hd with
   |agg _ vs hl h1 bA=>
    rw[qC (xs:=xs) ⟨hl,bA⟩ h];simp[jd]
 ·cases h
theorem RealC.new_map {X:Cfg}{s:FS}{a:Act}{w:World}{c:Cx}(h:RealC X s a w c){k:Nat}(hk:s.heap k= .none)(t5:¬k < X.m)(n:Nat)(sB:Bool):
 ∃c',RealC X {s with heap:=cH [(k,.mp n sB [])] s.heap} a (w.alloc (.map #[] 0)) c'∧RepP c' (w.alloc (.map #[] 0)) (.mref k) (.map (some w.heap.size)):=by
 have a9:=h.chunk k;rw[hk]at a9;cases a9 with
 |none yd Td=>
  have hx:=jp w (.map #[] 0);have co:(fun k'=>if k'=k then some w.heap.size else c.bl k') k=some w.heap.size:=if_pos rfl;refine⟨{M:=fun b=>c.M b∨b=w.heap.size,bl:=fun k'=>if k'=k then some w.heap.size else c.bl k',ov:=c.ov},?_,.mref k _ co⟩;have hle:c.le {M:=fun b=>c.M b∨b=w.heap.size,bl:=fun k'=>if k'=k then some w.heap.size else c.bl k',ov:=c.ov}:=
   ⟨fun k' b hb=>by
    have:k'≠k:=fun e=>by subst e;rw[yd]at hb;cases hb
    show (if k'=k then some w.heap.size else c.bl k')=some b;rw[if_neg this];exact hb,fun _ _ _ h=>h⟩
  refine h.new_chunk hk t5 hx hle (fun k' bB=>if_neg bB) (fun _ _=>rfl) (fun b=>?_) (fun b hb=>?_) (fun lM=>?_)
  ·simp only[Cx.block,if_true,XX.injEq];exact⟨fun h=>h.imp id Eq.symm,fun h=>h.imp id Eq.symm⟩
  ·simp only[Cx.block,if_true,XX.injEq]at hb;rw[size_alloc];omega
  ·exact .mp n sB [] w.heap.size co (by simpa[bv]using jM w (.map #[] 0)) (fun _ h=>by simp at h)
theorem RealC.set_map {X:Cfg}{s:FS}{a:Act}{w:World}{c:Cx}(h:RealC X s a w c){k n b:Nat}{sB:Bool}{ents ents':List (List Int × Int)}(hk:s.heap k= .mp n sB ents)(hb:c.bl k=some b)(hh:w.heap[b]? =some (.map (bv sB ents 0).toArray ents.length))
 (hn:∀kv∈ents',kv.1.length=n):RealC X {s with heap:=cH [(k,.mp n sB ents')] s.heap} a {w with heap:=w.heap.setIfInBounds b (.map (bv sB ents' 0).toArray ents'.length)} c:=by
 have cJ:c.block k (s.heap k)=some b:=by rw[hk];exact hb
 have dS:=MapKept.heap_set (o':= .map (bv sB ents' 0).toArray ents'.length) hh;refine h.turn c.le_refl rfl (fun _ _=>rfl) (fun _ _=>rfl) rfl rfl rfl (by simp) (fun b' _ hb'=>dS.2 b' (fun e=>hb' (by rw[e];exact cJ))) (fun b'=>?_) (fun b' hb'=>?_) (fun lM=>?_)
 ·show c.M b'↔(c.M b'∧c.block k (s.heap k)≠some b')∨c.bl k=some b';rw[cJ,hb];constructor
  ·intro hm;by_cases e:b=b'
   ·exact .inr (by rw[e])
   ·exact .inl ⟨hm,fun h=>e (XX.inj h)⟩
  ·rintro (⟨hm,_⟩|e)
   ·exact hm
   ·exact(h.mu b').2 (.inr ⟨k,by rw[cJ];exact e⟩)
 ·have e:c.bl k=some b':=hb';refine⟨.inl (by rw[cJ,←hb];exact e),?_⟩;simp only[Array.size_setIfInBounds];exact(h.new k b' (by rw[cJ,←hb];exact e)).2
 ·exact .mp n sB ents' b hb dS.1 hn
section
variable {X:Cfg}{ops:Array Oper}{s:FS}{o:Oper}(hd:∀d,o.dst=some d→d < X.n)
include hd
theorem Ez {t nk n:Nat}{sB:Bool}(ho:o.op= .makeMap t none)(hk:s.heap nk= .none)(t5:¬nk < X.m):bJ X ops s o {pv:= .mref nk,eff:=[(nk,.mp n sB [])],touch:=[nk]}:=
 d6 hd (fun kc h=>by simp at h;subst h;simp) fun s' he io a w c hc=>by
  obtain⟨c',h1,h2⟩:=hc.new_map (k:=nk) (by rw[io nk (by simp)];exact hk) t5 n sB;refine⟨_,_,_,?_,.inl rfl,c',h1,h2⟩;simp only[execOp,ho,Zg];rw[Sem.run_bind,run_makeMap];rfl
theorem Hs {t k n:Nat}{sB ok:Bool}{m x:Operand}{ents:List (List Int × Int)}{xs:List Int}(ho:o.op= .lookup t m x ok)(hm:MapOK X.P t n sB)(Tl:ev s m= .mref k)(hk:s.heap k= .mp n sB ents)(hx:Ey sB (ev s x)=some xs)(Un:xs.length=n):
 bJ X ops s o {pv:=if ok then .d (.tup [.v (.int .i64 ((kF ents xs).getD 0)),.v (.bool (kF ents xs).isSome)])else .d (.v (.int .i64 ((kF ents xs).getD 0))),touch:=[k]}:=
 aM hd fun s' he io a w c hc=>by
  have e1:=bM hc m;rw[he m (by simp[ho,Op.operands]),Tl]at e1;have e2:=bM hc x;rw[he x (by simp[ho,Op.operands])]at e2;have e3:=BG hx e2;have hk':s'.heap k= .mp n sB ents:=by rw[io k (by simp)];exact hk
  have a9:=hc.chunk k;rw[hk']at a9;generalize hu:a.eval m=u at e1;cases e1 with
  |mref _ b hb=>
   cases a9 with
   |mp _ _ _ b' hb' hh hn=>
    rw[hb]at hb';cases hb';have ct:=Ex hm hh hn Un ok;refine⟨if ok then .tuple #[.int .i64 ((kF ents xs).getD 0),.bool (kF ents xs).isSome]else .int .i64 ((kF ents xs).getD 0),?_,?_⟩
    ·simp only[execOp,ho,hu,e3];rw[Sem.run_bind,ct];rfl
    ·cases ok with
     |false=>exact .d _ _ (.v _)
     |true=>
      refine .d _ _ (.tup _ [_,_] rfl ?_);intro j d y h1 h2;match j with
      |0=>simp at h1 h2;subst h1;subst h2;exact .v _
      |1=>simp at h1 h2;subst h1;subst h2;exact .v _
      |j+2=>simp at h1
theorem Ac {t k n:Nat}{sB:Bool}{m x y:Operand}{ents:List (List Int × Int)}{xs:List Int}{v:Int}(ho:o.op= .mapUpdate t m x y∨o.op= .insert t m x y)(sX:o.dst=none)(hm:MapOK X.P t n sB)(Tl:ev s m= .mref k)(hk:s.heap k= .mp n sB ents)(hx:Ey sB (ev s x)=some xs)(Un:xs.length=n)
 (hy:ev s y= .d (.v (.int .i64 v))):bJ X ops s o {pv:= .any,eff:=[(k,.mp n sB (l9 ents xs v))],touch:=[k]}:=
 d6 hd (fun kc h=>by simp at h;subst h;simp) fun s' he io a w c hc=>by
  have dE:m∈o.op.operands∧x∈o.op.operands∧y∈o.op.operands:=by rcases ho with ho|ho<;>simp[ho,Op.operands]
  have e1:=bM hc m;rw[he m dE.1,Tl]at e1;have e2:=bM hc x;rw[he x dE.2.1]at e2;have e3:=BG hx e2;have e4:=bM hc y;rw[he y dE.2.2,hy]at e4;have hk':s'.heap k= .mp n sB ents:=by rw[io k (by simp)];exact hk
  have a9:=hc.chunk k;rw[hk']at a9;generalize hu:a.eval m=u at e1;generalize hv:a.eval y=vy at e4;cases e4 with
  |d _ _ e4=>
  cases e4;cases e1 with
  |mref _ b hb=>
   cases a9 with
   |mp _ _ _ b' hb' hh hn=>
    rw[hb]at hb';cases hb';have ct:=xA hm hh hn Un v;have h3:=hc.set_map hk' hb hh (F3 (v:=v) hn Un);refine⟨.skip,undef,_,?_,.inr ⟨rfl,rfl⟩,c,h3,.any _⟩;rcases ho with ho|ho
    ·simp only[execOp,ho,hu,hv,e3];rw[Sem.run_bind,ct];rfl
    ·simp only[execOp,ho,hu,hv,e3];rw[Sem.run_bind,ct];rfl
end
def xB (P:Program)(f:Nat):Prop:=∀(args:Array Value) (w:World),(callFunc f args).run P w= .ok (.enter f args) w
def af (P:Program)(f:Nat)(args:List D)(r:D):Prop:=
 xB P f∧∀(M:Nat→Prop) (w:World) (vs:List Value),(∀b,M b→b < w.heap.size)→Ek M w→cu M w args vs→Calls P f vs.toArray w fun e w'=>∃v,e= .returned v∧RepD M w' r v∧dA w w'
def D.isV:D→Bool
 | .v _=>true
 |_=>false
def D.flat:D→Bool
 | .v _=>true
 | .agg l=>l.all D.isV
 | .tup l=>l.all fun d=>match d with| .v _=>true| .agg l=>l.all D.isV|_=>false
 |_=>false
theorem F5 {M M':Nat→Prop}{w w':World}{d:D}{v:Value}(h:RepD M w d v)(hf:d.isV=true):RepD M' w' d v:=by
 cases d<;>simp[D.isV]at hf;cases h;exact .v _
theorem JU {M M':Nat→Prop}{w w':World}{d:D}{v:Value}(h:RepD M w d v)(hf:d.flat=true):RepD M' w' d v:=by
 cases h with
 |v=>exact .v _
 |agg cells vs hl h1 bA=>
  simp only[D.flat,XC]at hf;exact .agg cells vs hl h1 fun j d x hj hx=>F5 (bA j d x hj hx) (hf d (Xl hj))
 |tup ds vs hl bA=>
  simp only[D.flat,XC]at hf;refine .tup ds vs hl fun j d x hj hx=>?_;have h0:=bA j d x hj hx;have h1:=hf d (Xl hj);cases h0 with
  |v=>exact .v _
  |agg cells us hl' h1' oO=>
   simp only[XC]at h1;exact .agg cells us hl' h1' fun j d x hj hx=>F5 (oO j d x hj hx) (h1 d (Xl hj))
  |_=>simp at h1
 |_=>simp[D.flat]at hf
def cM (f:PV→Option D):List PV→Option (List D)
 |[]=>some []
 |p::l=>match f p,cM f l with|some d,some ds=>some (d::ds)|_,_=>none
def dh (f:PV→Option D):List (List PV)→Option (List (List D))
 |[]=>some []
 |r::l=>match cM f r,dh f l with|some d,some ds=>some (d::ds)|_,_=>none
def bq (h:Nat→Chunk):Nat→PV→Option D
 |_,.d x=>some x
 |n+1,.own k g=>match h k with| .row _ sz g' rows=>if g=g' then (dh (bq h n) rows).map (.sl sz)else none|_=>none
 |n+1,.ptr k off=>match h k with| .box _ cells=>(cM (bq h n) (cells.drop off)).map .ept|_=>none
 |n+1,.rp k g sz i j=>match h k with| .row _ sz' g' rows=>if g=g'∧sz=sz' then (match rows[i]? with|some row=>(cM (bq h n) (row.drop j)).map .ept|none=>none)else none|_=>none
 |n+1,.osl k g sz a m=>match h k with| .row _ sz' g' rows=>if g=g'∧sz=sz'∧0 < rows.length then (dh (bq h n) ((rows.drop a).take m)).map (.sl sz)else none|_=>none
 |n+1,.clo g caps=>(cM (bq h n) caps).map (.clo g)
 |n+1,.agg cells=>(cM (bq h n) cells).map .agg
 |n+1,.tup l=>(cM (bq h n) l).map .tup
 |_,_=>none
def jq (f:PV→List Nat):List PV→List Nat
 |[]=>[]
 |p::l=>f p++jq f l
def xC (f:PV→List Nat):List (List PV)→List Nat
 |[]=>[]
 |r::l=>jq f r++xC f l
def cW (h:Nat→Chunk):Nat→PV→List Nat
 |_,.d _=>[]
 |n+1,.own k _=>k::(match h k with| .row _ _ _ rows=>xC (cW h n) rows|_=>[])
 |n+1,.ptr k off=>k::(match h k with| .box _ cells=>jq (cW h n) (cells.drop off)|_=>[])
 |n+1,.rp k _ _ i j=>k::(match h k with| .row _ _ _ rows=>jq (cW h n) (((rows[i]?).getD []).drop j)|_=>[])
 |n+1,.osl k _ _ _ _=>k::(match h k with| .row _ _ _ rows=>xC (cW h n) rows|_=>[])
 |n+1,.clo _ caps=>jq (cW h n) caps
 |n+1,.agg cells=>jq (cW h n) cells
 |n+1,.tup l=>jq (cW h n) l
 |_,_=>[]
theorem mR (h:Nat→Chunk)(n:Nat)(x:D):bq h n (.d x)=some x:=by cases n<;>rfl
theorem JV (h:Nat→Chunk)(n:Nat)(x:D):cW h n (.d x)=[]:=by cases n<;>rfl
theorem ux (h:Nat→Chunk)(n:Nat):∀(l:List D),cM (bq h n) (l.map .d)=some l
 |[]=>rfl
 |x::l=>by simp only[Xm,cM,mR,ux h n l]
theorem Ad (h:Nat→Chunk)(n:Nat):∀(l:List D),jq (cW h n) (l.map .d)=[]
 |[]=>rfl
 |x::l=>by simp only[Xm,jq,JV,Ad h n l,Yw]
theorem eJ (h:Nat→Chunk)(n:Nat):∀(l:List (List D)),dh (bq h n) (ab l)=some l
 |[]=>rfl
 |x::l=>by
  have:=eJ h n l;simp only[ab]at this;simp only[ab,Xm,dh,ux,this]
theorem nZ (h:Nat→Chunk)(n:Nat):∀(l:List (List D)),xC (cW h n) (ab l)=[]
 |[]=>rfl
 |x::l=>by
  have:=nZ h n l;simp only[ab]at this;simp only[ab,Xm,xC,Ad,this,Yw]
theorem fN {f:PV→List Nat}:∀{l:List PV}{p:PV},p∈l→∀k∈f p,k∈jq f l
 |q::l,p,h,k,hk=>by
  rcases X7.1 h with rfl|h
  ·exact ZP _ hk
  ·exact List.mem_append_right _ (fN h k hk)
theorem n7 {f:PV→List Nat}:∀{l:List (List PV)}{r:List PV}{p:PV},r∈l→p∈r→∀k∈f p,k∈xC f l
 |q::l,r,p,h,hp,k,hk=>by
  rcases X7.1 h with rfl|h
  ·exact ZP _ (fN hp k hk)
  ·exact List.mem_append_right _ (n7 h hp k hk)
theorem gr {f f':PV→Option D}:∀{l:List PV},(∀p∈l,f' p=f p)→cM f' l=cM f l
 |[],_=>rfl
 |p::l,e=>by simp only[cM,e p (by simp),gr (l:=l) fun q hq=>e q (by simp[hq])]
theorem pO {f f':PV→Option D}:∀{l:List (List PV)},(∀r∈l,∀p∈r,f' p=f p)→dh f' l=dh f l
 |[],_=>rfl
 |r::l,e=>by simp only[dh,gr (e r (by simp)),pO (l:=l) fun q hq=>e q (by simp[hq])]
theorem jr {f f':PV→List Nat}:∀{l:List PV},(∀p∈l,f' p=f p)→jq f' l=jq f l
 |[],_=>rfl
 |p::l,e=>by simp only[jq,e p (by simp),jr (l:=l) fun q hq=>e q (by simp[hq])]
theorem sa {f f':PV→List Nat}:∀{l:List (List PV)},(∀r∈l,∀p∈r,f' p=f p)→xC f' l=xC f l
 |[],_=>rfl
 |r::l,e=>by simp only[xC,jr (e r (by simp)),sa (l:=l) fun q hq=>e q (by simp[hq])]
theorem fC {h h':Nat→Chunk}:∀(n:Nat) (p:PV),(∀k∈cW h n p,h' k=h k)→bq h' n p=bq h n p∧cW h' n p=cW h n p
 |0,p,_=>by cases p<;>exact⟨rfl,rfl⟩
 |n+1,p,e=>by
  cases p with
  |own k g=>
   have hk:=e k (by simp[cW]);simp only[bq,cW,hk];cases hb:h k with
   |row E sz g' rows=>
    have key:∀r∈rows,∀q∈r,bq h' n q=bq h n q∧cW h' n q=cW h n q:=fun r hr q hq=>fC n q fun k' hk'=>e k' (by
     simp only[cW,hb,X7];exact .inr (n7 hr hq k' hk'))
    simp only;rw[pO fun r hr q hq=>(key r hr q hq).1,sa fun r hr q hq=>(key r hr q hq).2];exact⟨rfl,rfl⟩
   |_=>exact⟨rfl,rfl⟩
  |ptr k off=>
   have hk:=e k (by simp[cW]);simp only[bq,cW,hk];cases hb:h k with
   |box T cells=>
    have key:∀q∈cells.drop off,bq h' n q=bq h n q∧cW h' n q=cW h n q:=fun q hq=>fC n q fun k' hk'=>e k' (by
     simp only[cW,hb,X7];exact .inr (fN hq k' hk'))
    simp only;rw[gr fun q hq=>(key q hq).1,jr fun q hq=>(key q hq).2];exact⟨rfl,rfl⟩
   |_=>exact⟨rfl,rfl⟩
  |rp k g sz i j=>
   have hk:=e k (by simp[cW]);simp only[bq,cW,hk];cases hb:h k with
   |row E sz' g' rows=>
    have key:∀q∈((rows[i]?).getD []).drop j,bq h' n q=bq h n q∧cW h' n q=cW h n q:=fun q hq=>fC n q fun k' hk'=>e k' (by
     simp only[cW,hb,X7];exact .inr (fN hq k' hk'))
    simp only;refine⟨?_,by rw[jr fun q hq=>(key q hq).2]⟩;cases G5:rows[i]? with
    |none=>rfl
    |some row=>
     rw[G5]at key;simp only[YI]at key;simp only;rw[gr fun q hq=>(key q hq).1]
   |_=>exact⟨rfl,rfl⟩
  |osl k g sz a m=>
   have hk:=e k (by simp[cW]);simp only[bq,cW,hk];cases hb:h k with
   |row E sz g' rows=>
    have key:∀r∈rows,∀q∈r,bq h' n q=bq h n q∧cW h' n q=cW h n q:=fun r hr q hq=>fC n q fun k' hk'=>e k' (by
     simp only[cW,hb,X7];exact .inr (n7 hr hq k' hk'))
    simp only;rw[pO (l:=(rows.drop a).take m) fun r hr q hq=>(key r (Yd (Yf hr)) q hq).1,sa fun r hr q hq=>(key r hr q hq).2];exact⟨rfl,rfl⟩
   |_=>exact⟨rfl,rfl⟩
  |clo g caps=>
   have key:∀q∈caps,bq h' n q=bq h n q∧cW h' n q=cW h n q:=fun q hq=>fC n q fun k' hk'=>e k' (fN hq k' hk');simp only[bq,cW];rw[gr fun q hq=>(key q hq).1,jr fun q hq=>(key q hq).2];exact⟨rfl,rfl⟩
  |agg caps=>
   have key:∀q∈caps,bq h' n q=bq h n q∧cW h' n q=cW h n q:=fun q hq=>fC n q fun k' hk'=>e k' (fN hq k' hk');simp only[bq,cW];rw[gr fun q hq=>(key q hq).1,jr fun q hq=>(key q hq).2];exact⟨rfl,rfl⟩
  |tup caps=>
   have key:∀q∈caps,bq h' n q=bq h n q∧cW h' n q=cW h n q:=fun q hq=>fC n q fun k' hk'=>e k' (fN hq k' hk');simp only[bq,cW];rw[gr fun q hq=>(key q hq).1,jr fun q hq=>(key q hq).2];exact⟨rfl,rfl⟩
  |_=>exact⟨rfl,rfl⟩
def lB (c:Cx)(h:Nat→Chunk)(T:List Nat)(b:Nat):Prop:=c.M b∧∀k∈T,c.block k (h k)≠some b
theorem sb (c:Cx)(h:Nat→Chunk)(T:List Nat)(w:World):Keep c.M w (lB c h T) w:=⟨XB _,fun _ _ _=>rfl,fun _ _ h=>h.1⟩
theorem eZ {f:PV→Option D}:∀{l:List PV}{ds:List D},cM f l=some ds→l.length=ds.length∧∀(j:Nat) (d:D),ds[j]? =some d→∃p,l[j]? =some p∧f p=some d
 |[],ds,h=>by simp[cM]at h;subst h;simp
 |p::l,ds,h=>by
  simp only[cM]at h;split at h
  ·rename_i d es h1 h2;cases h;obtain⟨q1,q2⟩:=eZ h2;refine⟨by simp[q1],fun j e hj=>?_⟩;cases j with
   |zero=>simp at hj;subst hj;exact⟨p,rfl,h1⟩
   |succ j=>simpa using q2 j e (by simpa using hj)
  ·cases h
theorem uV {f:PV→Option D}:∀{l:List (List PV)}{ds:List (List D)},dh f l=some ds→l.length=ds.length∧∀(j:Nat) (d:List D),ds[j]? =some d→∃p,l[j]? =some p∧cM f p=some d
 |[],ds,h=>by simp[dh]at h;subst h;simp
 |p::l,ds,h=>by
  simp only[dh]at h;split at h
  ·rename_i d es h1 h2;cases h;obtain⟨q1,q2⟩:=uV h2;refine⟨by simp[q1],fun j e hj=>?_⟩;cases j with
   |zero=>simp at hj;subst hj;exact⟨p,rfl,h1⟩
   |succ j=>simpa using q2 j e (by simpa using hj)
  ·cases h
theorem ma {h:Nat→Chunk}{n:Nat}{p:PV}{d:D}(hv:bq h n p=some d)(h1:p.one=true):d.one=true:=by
 cases p with
 |d x=>rw[mR]at hv;cases hv;exact h1
 |agg=>simp[PV.one]at h1
 |tup=>simp[PV.one]at h1
 |any=>simp[PV.one]at h1
 |own k g=>
  cases n with
  |zero=>cases hv
  |succ n=>
   simp only[bq]at hv;split at hv
   ·split at hv
    ·simp only[XO]at hv;obtain⟨_,_,rfl⟩:=hv;rfl
    ·cases hv
   ·cases hv
 |ptr k off=>
  cases n with
  |zero=>cases hv
  |succ n=>
   simp only[bq]at hv;split at hv
   ·simp only[XO]at hv;obtain⟨_,_,rfl⟩:=hv;rfl
   ·cases hv
 |rp k g sz i j=>
  cases n with
  |zero=>cases hv
  |succ n=>
   simp only[bq]at hv;split at hv
   ·split at hv
    ·split at hv
     ·simp only[XO]at hv;obtain⟨_,_,rfl⟩:=hv;rfl
     ·cases hv
    ·cases hv
   ·cases hv
 |clo g caps=>
  cases n with
  |zero=>cases hv
  |succ n=>simp only[bq,XO]at hv;obtain⟨_,_,rfl⟩:=hv;rfl
 |osl k g sz a m=>
  cases n with
  |zero=>cases hv
  |succ n=>
   simp only[bq]at hv;split at hv
   ·split at hv
    ·simp only[XO]at hv;obtain⟨_,_,rfl⟩:=hv;rfl
    ·cases hv
   ·cases hv
 |mref=>cases n<;>cases hv
theorem mb {w:World}{b:Nat}{o:Obj}(h:w.heap[b]? =some o):b < w.heap.size:=by
 rcases XP b w.heap.size with hl|hl
 ·exact hl
 ·rw[YM hl]at h;cases h
section
variable {X:Cfg}{s:FS}{a:Act}{w:World}{c:Cx}(hc:RealC X s a w c){T:List Nat}
include hc
theorem kM:∀(n:Nat) {p:PV}{d:D}{v:Value},bq s.heap n p=some d→(∀k∈cW s.heap n p,k∈T)→RepP c w p v→RepD (lB c s.heap T) w d v
 |0,p,d,v,hv,ht,hr=>by
  cases p with
  |d x=>cases hv;exact(cp hr).keep (sb c s.heap T w)
  |_=>cases hv
 |n+1,p,d,v,hv,ht,hr=>by
  have many:∀(l:List PV) (ds:List D) (vs:List Value),cM (bq s.heap n) l=some ds→(∀k∈jq (cW s.heap n) l,k∈T)→bH c w l vs→cu (lB c s.heap T) w ds vs:=by
   intro l ds vs fA hT hl;obtain⟨q1,q2⟩:=eZ fA;refine⟨by rw[←q1];exact hl.1,fun j d x hj hx=>?_⟩;obtain⟨p,hp,w7⟩:=q2 j d hj;exact kM n w7 (fun k hk=>hT k (fN (Xl hp) k hk)) (hl.2 j p x hp hx)
  cases p with
  |d x=>rw[mR]at hv;cases hv;exact(cp hr).keep (sb c s.heap T w)
  |own k g=>
   simp only[bq]at hv;split at hv
   ·rename_i E sz g' rows hk;split at hv
    ·rename_i e;subst e;simp only[XO]at hv;obtain⟨drows,fA,rfl⟩:=hv;obtain⟨q1,q2⟩:=uV fA;have a9:=hc.chunk k;rw[hk]at a9;have U0:k∈T:=ht k (by simp[cW]);have wY:∀r∈rows,∀p∈r,∀k'∈cW s.heap n p,k'∈T:=fun r hr p hp k' hk'=>ht k' (by
      simp only[cW,hk,X7];exact .inr (n7 hr hp k' hk'))
     cases hr with
     |own _ _ _ eh _=>
      cases a9 with
      |row _ _ _ _ u xs hu da nF cT h1 hg=>
       rw[eh]at hu;cases hu;generalize hn:rows.length=n' at da;have nilc:n'=0→drows=[]:=fun h0=>X9 (by omega);cases da with
       |nil=>rw[nilc rfl];exact .nil sz none 0 (by omega)
       |zero ad=>rw[nilc rfl];exact .nil sz (some ad) 0 (by omega)
       |row gb _ cap cur _ h0 hh Jv hm hs hl g7=>
        subst hn;have ME:∀j,j < rows.length*sz→cur[j]? =xs[j]? :=by
         intro j hj;rw[←g7,XS hj,X6]
        rw[q1];refine .sl sz drows gb 0 cap (fun i j=>xs.getD (i*sz+j) undef) (fun hm'=>hm'.2 k U0 (by rw[hk];simp[Cx.block,eh,dk h0])) (mb hh) (by omega) (by simpa[maxLen]using hm) (fun r hr=>?_) (fun r hr d hd=>?_) (fun i j hi hj=>?_) (fun i j row d hi hj=>?_)
        ·obtain⟨j,hj,e⟩:=Yb hr;obtain⟨p,hp,w7⟩:=q2 j r (by rw[←e];exact Xk hj);rw[←(eZ w7).1];exact cT p (Xl hp)
        ·obtain⟨j,hj,e⟩:=Yb hr;obtain⟨p,hp,w7⟩:=q2 j r (by rw[←e];exact Xk hj);obtain⟨j2,Jz,e2⟩:=Yb hd;obtain⟨p2,G6,FG⟩:=(eZ w7).2 j2 d (by rw[←e2];exact Xk Jz);exact ma FG (h1 p (Xl hp) p2 (Xl G6))
        ·have hij:i*sz+j < rows.length*sz:=by
          have:(i+1)*sz≤rows.length*sz:=Yt sz (by omega);rw[YY]at this;omega
         rw[XG];simp only[YS,hh,ME _ hij];simp[XK,Xk (show i*sz+j < xs.length by omega)]
        ·obtain⟨p,hp,w7⟩:=q2 i row hi;obtain⟨p2,G6,FG⟩:=(eZ w7).2 j d hj;have hi':i < rows.length:=(Xn.1 hp).1;have hj':j < sz:=by rw[←cT p (Xl hp)];exact(Xn.1 G6).1
         have hij:i*sz+j < rows.length*sz:=by
          have:(i+1)*sz≤rows.length*sz:=Yt sz hi';rw[YY]at this;omega
         have hx:xs[i*sz+j]? =some xs[i*sz+j]:=Xk (by omega);have:=nF.2 (i*sz+j) p2 _ (by rw[cE cT i j hj',hp];exact G6) hx;have:=kM n FG (wY p (Xl hp) p2 (Xl G6)) this;simpa[XK,hx]using this
    ·cases hv
   ·cases hv
  |ptr k off=>
   simp only[bq]at hv;split at hv
   ·rename_i TT cells hk;simp only[XO]at hv;obtain⟨ds,fA,rfl⟩:=hv;have a9:=hc.chunk k;rw[hk]at a9;cases hr with
    |ptr _ _ b hb=>
     cases a9 with
     |box _ _ b' vs hb' hh nF h1=>
      rw[hb]at hb';cases hb';have Ef:bH c w (cells.drop off) (vs.drop off):=⟨by rw[XJ,XJ,nF.1],fun j d x hj hx=>by
       rw[Yk]at hj hx;exact nF.2 _ d x hj hx⟩
      have hm:=many _ ds _ fA (fun k' hk'=>ht k' (by simp only[cW,hk,X7];exact .inr hk')) Ef;obtain⟨q1,q2⟩:=eZ fA;refine .ept ds b off (fun j=>(vs.drop off).getD j undef) (fun hm'=>hm'.2 k (ht k (by simp[cW])) (by rw[hk];exact hb)) (mb hh) (fun d hd=>?_) (fun j hj=>?_) (fun j d hj=>?_)
      ·obtain⟨j,hj,e⟩:=Yb hd;obtain⟨p,hp,w7⟩:=q2 j d (by rw[←e];exact Xk hj);exact ma w7 (h1 p (Yd (Xl hp)))
      ·have hl:off+j < vs.length:=by have:=Ef.1;rw[XJ,XJ]at this;rw[←q1,XJ]at hj;have:=nF.1;omega
       simp[YS,hh,XK,Yk,Xk hl]
      ·have hl:j < (vs.drop off).length:=by rw[←hm.1];exact(Xn.1 hj).1
       have:=hm.2 j d _ hj (Xk hl);simpa[XK,Xk hl]using this
   ·cases hv
  |rp k g sz i j=>
   simp only[bq]at hv;split at hv
   ·rename_i E sz' g' rows hk;split at hv
    ·rename_i e;obtain⟨rfl,rfl⟩:=e;split at hv
     ·rename_i row bZ;simp only[XO]at hv;obtain⟨ds,fA,rfl⟩:=hv;have a9:=hc.chunk k;rw[hk]at a9;cases hr with
      |rp _ _ _ _ _ b nn cap hb=>
       obtain⟨cur,xs,z1,z2,z3,z4,z5,z6,z7,z8,z9,z10,z11⟩:=ef a9 hb (fun e=>by rw[e]at bZ;cases bZ);have hi:i < rows.length:=(Xn.1 bZ).1;have zI:row.length=sz:=z5 row (Xl bZ);have A0:(i+1)*sz≤rows.length*sz:=Yt sz hi;rw[YY]at A0;have nE:=BA z2 z5 bZ z3;generalize Jd:(xs.drop (i*sz)).take sz=ys at nE;have rP:ys.length=sz:=by rw[←nE.1,zI]
       have dC:∀j' v,ys[j']? =some v→cur[i*sz+j']? =some v:=by
        intro j' v hj';rw[←Jd]at hj';obtain⟨hlt,hj'⟩:=eI hj';rw[z4 _ (by omega),hj']
       have Ef:bH c w (row.drop j) (ys.drop j):=⟨by rw[XJ,XJ,nE.1],fun j d x hj hx=>by
        rw[Yk]at hj hx;exact nE.2 _ d x hj hx⟩
       have hm:=many _ ds _ fA (fun k' hk'=>ht k' (by simp only[cW,hk,bZ,YI,X7];exact .inr hk')) Ef;obtain⟨q1,q2⟩:=eZ fA;have eh:c.block k (s.heap k)=fr (.slice (some ⟨b,0,none⟩) nn cap):=by rw[hk];simp[Cx.block,hb]
       refine .ept ds b (i*sz+j) (fun j'=>(ys.drop j).getD j' undef) (fun hm'=>hm'.2 k (ht k (by simp[cW])) (by rw[eh,dk (by omega)])) (mb z1) (fun d hd=>?_) (fun j' hj'=>?_) (fun j' d hj'=>?_)
       ·obtain⟨j',hj',e⟩:=Yb hd;obtain⟨p,hp,w7⟩:=q2 j' d (by rw[←e];exact Xk hj');exact ma w7 (z6 row (Xl bZ) p (Yd (Xl hp)))
       ·have hl:j+j' < ys.length:=by rw[←q1,XJ]at hj';omega
        have:=dC (j+j') _ (Xk hl);simp only[YS,z1];rw[ZF,this];simp[XK,Yk,Xk hl]
       ·have hl:j' < (ys.drop j).length:=by rw[←hm.1];exact(Xn.1 hj').1
        have:=hm.2 j' d _ hj' (Xk hl);simpa[XK,Xk hl]using this
     ·cases hv
    ·cases hv
   ·cases hv
  |clo g caps=>
   simp only[bq,XO]at hv;obtain⟨ds,fA,rfl⟩:=hv;cases hr with
   |clo _ _ vs hl bA=>
    have hm:=many _ ds _ fA (fun k' hk'=>ht k' hk') ⟨hl,bA⟩;exact .clo g ds vs hm.1 hm.2
  |agg cells=>
   simp only[bq,XO]at hv;obtain⟨ds,fA,rfl⟩:=hv;cases hr with
   |agg _ vs hl h1 bA=>
    have hm:=many _ ds _ fA (fun k' hk'=>ht k' hk') ⟨hl,bA⟩;refine .agg ds vs hm.1 (fun d hd=>?_) hm.2;obtain⟨j,hj,e⟩:=Yb hd;obtain⟨p,hp,w7⟩:=(eZ fA).2 j d (by rw[←e];exact Xk hj);exact ma w7 (h1 p (Xl hp))
  |tup cells=>
   simp only[bq,XO]at hv;obtain⟨ds,fA,rfl⟩:=hv;cases hr with
   |tup _ vs hl bA=>
    have hm:=many _ ds _ fA (fun k' hk'=>ht k' hk') ⟨hl,bA⟩;exact .tup ds vs hm.1 hm.2
  |any=>cases hv
  |osl k g sz a m=>
   simp only[bq]at hv;split at hv
   ·rename_i E sz' g' rows hk;split at hv
    ·rename_i e;obtain⟨rfl,rfl,Je⟩:=e;simp only[XO]at hv;obtain⟨drows,fA,rfl⟩:=hv;obtain⟨q1,q2⟩:=uV fA;have a9:=hc.chunk k;rw[hk]at a9;have U0:k∈T:=ht k (by simp[cW]);have wY:∀r∈rows,∀p∈r,∀k'∈cW s.heap n p,k'∈T:=fun r hr p hp k' hk'=>ht k' (by
      simp only[cW,hk,X7];exact .inr (n7 hr hp k' hk'))
     cases hr with
     |osl _ _ _ _ _ b o N cap eh hn Qa MG=>
      obtain⟨cur,xs,z1,z2,z3,z4,z5,z6,z7,z8,z9,z10,z11⟩:=ef a9 eh (fun e=>by rw[e]at Je;simp at Je);have bR:((rows.drop a).take m).length=m:=by rw[Xq,XJ];omega
      rw[bR]at q1;rcases ZJ m with hm0|hm0
      ·subst hm0;have:drows=[]:=X9 (by omega);subst this;exact .nil sz _ _ (by simp[maxLen]at z9;omega)
      ·have ho:o=a*sz:=MG (by omega);subst ho;have bZ:∀(j:Nat) (p:List PV),((rows.drop a).take m)[j]? =some p→rows[a+j]? =some p∧j < m:=by
        intro j p hp;have hj:j < m:=by have:=(Xn.1 hp).1;rw[bR]at this;exact this
        rw[XS hj,Yk]at hp;exact⟨hp,hj⟩
       have ll:∀i j,a*sz+i*sz+j=(a+i)*sz+j:=fun i j=>by rw[ZQ]
       have rS:∀i j,i < m→j < sz→(a+i)*sz+j < rows.length*sz:=by
        intro i j hi hj;have:(a+i+1)*sz≤rows.length*sz:=Yt sz (by omega);rw[YY]at this;omega
       have hD:RepD (lB c s.heap T) w (.sl sz drows) (.slice (some ⟨b,a*sz,none⟩) drows.length (cap - a)):=by
        refine .sl sz drows b (a*sz) (cap - a) (fun i j=>xs.getD ((a+i)*sz+j) undef) (fun hm'=>hm'.2 k U0 (by rw[hk];simp[Cx.block,eh,dk (show 0 < cap by omega)])) (mb z1) (by omega) (by simp[maxLen]at z9;omega) (fun r hr=>?_) (fun r hr d hd=>?_) (fun i j hi hj=>?_) (fun i j row d hi hj=>?_)
        ·obtain⟨j,hj,e⟩:=Yb hr;obtain⟨p,hp,w7⟩:=q2 j r (by rw[←e];exact Xk hj);rw[←(eZ w7).1];exact z5 p (Xl (bZ j p hp).1)
        ·obtain⟨j,hj,e⟩:=Yb hr;obtain⟨p,hp,w7⟩:=q2 j r (by rw[←e];exact Xk hj);obtain⟨j2,Jz,e2⟩:=Yb hd;obtain⟨p2,G6,FG⟩:=(eZ w7).2 j2 d (by rw[←e2];exact Xk Jz);exact ma FG (z6 p (Xl (bZ j p hp).1) p2 (Xl G6))
        ·have hb:=rS i j (by omega) hj;rw[ll];simp only[YS,z1,z4 _ hb];simp[XK,Xk (show (a+i)*sz+j < xs.length by omega)]
        ·obtain⟨p,hp,w7⟩:=q2 i row hi;obtain⟨p2,G6,FG⟩:=(eZ w7).2 j d hj;obtain⟨hp',hi'⟩:=bZ i p hp;have hj':j < sz:=by rw[←z5 p (Xl hp')];exact(Xn.1 G6).1
         have hb:=rS i j hi' hj';have hx:xs[(a+i)*sz+j]? =some xs[(a+i)*sz+j]:=Xk (by omega);have:=z2.2 ((a+i)*sz+j) p2 _ (by rw[cE z5 (a+i) j hj',hp'];exact G6) hx;have:=kM n FG (wY p (Xl hp') p2 (Xl G6)) this;simpa[XK,hx]using this
       rw[←q1]at hD;exact hD
    ·cases hv
   ·cases hv
  |mref=>cases hv
end
def vw (h:Nat→Chunk)(p:PV):Option D:=bq h 6 p
def tc (h:Nat→Chunk)(p:PV):List Nat:=cW h 6 p
theorem NJ {h h':Nat→Chunk}{p:PV}(e:∀k∈tc h p,h' k=h k):vw h' p=vw h p:=(fC 6 p e).1
theorem NK {h h':Nat→Chunk}{p:PV}(e:∀k∈tc h p,h' k=h k):tc h' p=tc h p:=(fC 6 p e).2
section
variable {X:Cfg}{ops:Array Oper}{s:FS}{o:Oper}(hd:∀d,o.dst=some d→d < X.n)
include hd
theorem NL {fo:Operand}{args:Array Operand}{tys:Array Nat}{g:Nat}{caps:List PV}{ds:List D}{r:D}(ho:o.op= .call {callee:= .value fo,args:=args,argTypes:=tys})
 (hf:ev s fo= .clo g caps∨∃cd:List D,ev s fo= .d (.clo g cd)∧caps=cd.map .d)
 (hv:cM (vw s.heap) (args.toList.map (ev s)++caps)=some ds) (hp:af X.P g ds r) (gY:jq (tc s.heap) (args.toList.map (ev s)++caps)=[]∨r.flat=true):
 bJ X ops s o {pv:= .d r,touch:=jq (tc s.heap) (args.toList.map (ev s)++caps)}:=by
 refine⟨hd,fun kc h=>by simp at h,fun s' he io a w hr K Q hK=>?_⟩;obtain⟨c,hc⟩:=hr;have sY:∀x,(x=fo∨x∈args)→ev s' x=ev s x:=fun x hx=>zV he x (by
  rw[ho];simp only[Op.operands,Call.operands];rcases hx with rfl|hx
  ·simp
  ·simp[hx])
 have zL:args.toList.map (ev s')=args.toList.map (ev s):=Zr fun x hx=>sY x (.inr (by simpa using hx));have Rz:cM (vw s'.heap) (args.toList.map (ev s)++caps)=some ds:=by
  rw[←hv];exact gr fun p hp=>NJ fun k hk=>io k (fN hp k hk)
 have U1:∀p∈args.toList.map (ev s)++caps,∀k∈tc s'.heap p,k∈jq (tc s.heap) (args.toList.map (ev s)++caps):=by
  intro p hp k hk;refine fN hp k ?_;have key:tc s'.heap p=tc s.heap p:=NK fun k hk=>io k (fN hp k hk);rw[←key];exact hk
 obtain⟨q1,q2⟩:=eZ Rz;obtain⟨fvs,Pu,uq,FH⟩:∃fvs:List Value,a.eval fo= .func (.func g) #[] fvs.toArray∧caps.length=fvs.length∧∀(j:Nat) (p:PV) (x:Value),caps[j]? =some p→fvs[j]? =some x→RepP c w p x:=by
  have h0:=bM hc fo;rw[sY fo (.inl rfl)]at h0;rcases hf with hf|⟨cd,hf,rfl⟩
  ·rw[hf]at h0;generalize a.eval fo=u at h0;cases h0 with
   |clo _ _ vs hl bA=>exact⟨vs,rfl,hl,bA⟩
  ·rw[hf]at h0;generalize a.eval fo=u at h0;have h0:=cp h0;cases h0 with
   |clo _ _ vs hl bA=>
    refine⟨vs,rfl,by simpa using hl,fun j p x hj hx=>?_⟩;simp only[Xz,XO]at hj;obtain⟨y,hy,rfl⟩:=hj;exact .d _ _ (bA j y x hy hx)
 have bA:cu (lB c s'.heap (jq (tc s.heap) (args.toList.map (ev s)++caps))) w ds (args.toList.map a.eval++fvs):=by
  refine⟨by rw[←q1];simp[uq],fun j d x hj hx=>?_⟩;obtain⟨p,hp,w7⟩:=q2 j d hj;refine kM hc 6 w7 (U1 p (Xl hp)) ?_;by_cases hlt:j < args.toList.length
  ·rw[X2 (by simpa using hlt)]at hp hx;simp only[Xz,XO]at hp hx;obtain⟨y,hy,rfl⟩:=hp;obtain⟨y',hy',rfl⟩:=hx;rw[hy]at hy';cases hy';have:=bM hc y;rwa [sY y (.inr (by simpa using Xl hy))]at this
  ·rw[XH (by simpa using hlt)]at hp hx;simp only[XD]at hp hx;exact FH _ p x hp hx
 have i8:=hp.2 _ w (args.toList.map a.eval++fvs) (fun b hb=>hc.lt hb.1) (hc.ginv.keep ⟨XB _,fun _ _ _=>rfl,fun b _ hb=>hb.1⟩) bA;have ct:(execOp a.eval o).run X.P w= .ok (.enter g (args.toList.map a.eval++fvs).toArray) w:=by
  have e:(args.toList.map a.eval++fvs).toArray=args.map a.eval++fvs.toArray:=by
   apply _h;simp
  rw[e];simp[execOp,ho,resolve,Pu,Deferred.ofValue,invoke];exact hp.1 _ _
 unfold Oper.wp;rw[ct,Oper.upon_enter];refine i8.mono ?_;rintro e w' ⟨v,rfl,hv',hx⟩;have Tm:=hc.grow hx;refine hK v w' ⟨c,Tm.put (.d _ _ ?_) hd⟩;rcases gY with h0|hflat
 ·refine hv'.keep ⟨XB _,fun _ _ _=>rfl,fun b _ hb=>⟨hb,fun k hk=>?_⟩⟩;rw[h0]at hk;simp at hk
 ·exact JU hv' hflat
end
theorem sd {size:Nat}(place:Nat→Option (Nat × Nat))(iP:∀i,place i=some (i*size,size)):∀(vs:List Value) (i:Nat) (done rest:List Value),(∀v∈vs,v.cells.size=size)→done.length=i*size→rest.length=vs.length*size→
 Instr.fill place (done++rest).toArray ((vs.zipIdx i).map fun(v,j)=>(j,v))=some (done++(vs.map fun v=>v.cells.toList).flatten).toArray
 |[],i,done,rest,_,_,hr=>by
  have:rest=[]:=X9 (by simpa using hr);subst this;simp[Instr.fill]
 |v::vs,i,done,rest,hv,Wu,hr=>by
  have h0:=hv v (by simp);rw[XA,YY]at hr;simp only[List.zipIdx_cons,Xm];rw[yx place _ i (i*size) size v _ (iP i) h0 (by simp;omega)];have e:ay (done++rest) (i*size) v.cells.toList=(done++v.cells.toList)++rest.drop size:=by
   unfold ay;have hl:v.cells.toList.length=size:=by simpa using h0
   rw[←Wu,List.take_left,hl,_d,L' (by omega),Ya];congr 1;congr 1;omega
  simp only[Y1];rw[e,sd place iP vs (i+1) (done++v.cells.toList) (rest.drop size) (fun x hx=>hv x (by simp[hx])) (by rw[XY,Wu,YY];simp;omega) (by rw[XJ];omega)];simp
section
variable {X:Cfg}{ops:Array Oper}{s:FS}{o:Oper}(hd:∀d,o.dst=some d→d < X.n)
include hd
theorem xD {t e n sz:Nat}{parts:Array (Nat × Operand)}{ti te:TI}{rows:List (List D)}(ho:o.op= .buildSlice t n parts)(ht:aU X.P t=some ti)(he':ti.elem=some e)(gR:aU X.P e=some te)
 (cT:te.size=sz) (wZ:0 < sz) (pi:0 < n) (RA:n*sz≤16777216) (Nr:rows.length=n) (ly:parts.size=n) (hp:∀(j:Nat) (i:Nat) (x:Operand),parts[j]? =some (i,x)→i=j∧∃ds,rows[j]? =some ds∧uR (cV (ev s x))=some ds∧yy (ev s x)=true∧ds.length=sz):
 bJ X ops s o {pv:= .d (.sl sz rows)}:=
 d6 hd (fun kc h=>by simp at h) fun s' he _ a w c hc=>by
  obtain⟨i,d,z,tk⟩:=iq ht;obtain⟨ie,de,ze,tke⟩:=iq gR;have kh:d= .slice e:=by
   have:=tk.elem;rw[he']at this;cases d<;>simp[gq]at this;rw[this]
  subst kh;obtain⟨vs,DQ⟩:∃vs:List Value,vs=parts.toList.map fun p=>a.eval p.2:=⟨_,rfl⟩;have P9:vs.length=n:=by rw[DQ];simpa using ly
  have bZ:∀(j:Nat) (ds:List D) (v:Value),rows[j]? =some ds→vs[j]? =some v→cu c.M w ds v.cells.toList∧(∀e∈ds,e.one=true)∧ds.length=sz:=by
   intro j ds v hj hv;rw[DQ]at hv;simp only[Xz,X6,XO]at hv;obtain⟨⟨i,y⟩,hy,rfl⟩:=hv;obtain⟨-,ds',g1,g2,g3,g4⟩:=hp j i y hy;rw[hj]at g1;cases g1;have fU:y∈o.op.operands:=by
    rw[ho];simp only[Op.operands,_c,XQ];exact⟨(i,y),by simpa using Z1 hy,rfl⟩
   have bA:=bM hc y;rw[he y fU]at bA;obtain⟨r1,r2⟩:=kD bA g3;have fV:=qE g2;refine⟨⟨?_,fun k e v hk hv=>?_⟩,fun e he'=>?_,g4⟩
   ·have:=r1.1;rw[fV,XD]at this;exact this
   ·exact cp (r1.2 k (.d e) v (by rw[fV,Xz,hk];rfl) hv)
   ·have:=r2 (.d e) (by rw[fV];exact Y8 he');exact this
  have Jf:∀v∈vs,v.cells.size=sz:=by
   intro v hv;obtain⟨j,hj,e⟩:=Yb hv;have U2:j < rows.length:=by omega
   have:=(bZ j rows[j] v (Xk U2) (by rw[←e];exact Xk hj));have h2:=this.1.1;simp at h2;omega
  have FJ:(parts.map fun(i,x)=>(i,a.eval x)).toList=((vs.zipIdx 0).map fun(v,j)=>(j,v)):=by
   apply Yj;intro j;simp only[Z9,Xz,List.getElem?_zipIdx,DQ,X6];cases hj:parts[j]? with
   |none=>rfl
   |some ix=>
    obtain⟨i,x⟩:=ix;obtain⟨rfl,-⟩:=hp j i x hj;simp
  have Qc:ze.cells.size=sz:=by rw[←cT,←tke.zsize,←tke.zcells];simp
  have MH:Instr.fill (fun i=>some (i*sz,sz)) ((_b (n*sz)).map (ze.cells[· % ze.cells.size]!)) (parts.map fun(i,x)=>(i,a.eval x)).toList=some ((vs.map fun v=>v.cells.toList).flatten).toArray:=by
   have:=sd (size:=sz) (fun i=>some (i*sz,sz)) (fun _=>rfl) vs 0 [] ((_b (n*sz)).map (ze.cells[· % ze.cells.size]!)).toList Jf (by simp) (by simp[P9]);rw[FJ];rw[Ya,Ya,V']at this;exact this
  have gY:∀r∈vs.map fun v=>v.cells.toList,r.length=sz:=by
   intro r hr;obtain⟨v,hv,rfl⟩:=XQ.1 hr;simpa using Jf v hv
  have hx:=jp w (.cells ((vs.map fun v=>v.cells.toList).flatten).toArray e);refine⟨.value (.slice (some ⟨w.heap.size,0,none⟩) n n),_,w.alloc (.cells ((vs.map fun v=>v.cells.toList).flatten).toArray e),?_,.inl rfl,c,hc.grow hx,.d _ _ ?_⟩
  ·have jH:∀o:Obj,({w with heap:=w.heap.push o}:World)=w.alloc o:=fun o=>(J' w o);have ct:(Instr.buildSlice t n (parts.map fun(i,x)=>(i,a.eval x))).run X.P w= .ok (.slice (some ⟨w.heap.size,0,none⟩) n n) (w.alloc (.cells ((vs.map fun v=>v.cells.toList).flatten).toArray e)):=by
    have bB:¬(n*sz=0):=Nat.ne_of_gt (Nat.mul_pos pi wZ);unfold Instr.buildSlice;simp only[Sem.run_bind,run_underlying tk.und,Result.andThen_ok,sizeOf,typeInfo,run_program,tke.info,Sem.run_pure,tke.size,cT];rw[if_neg (by omega),if_neg bB];simp only[Sem.run_bind,zeroValue,typeInfo,run_program,tke.info,Result.andThen_ok,Sem.run_pure,tke.zero,MH];simp[newRow,newObj,Sem.run,jH]
   simp only[execOp,ho];rw[Sem.run_bind,ct];rfl
  ·have hM:∀b,c.M b→b < w.heap.size:=fun b hb=>hc.lt hb;have hk:Keep c.M w c.M (w.alloc (.cells ((vs.map fun v=>v.cells.toList).flatten).toArray e)):=Keep.ext hx hM;subst Nr;refine .sl sz rows w.heap.size 0 rows.length (fun i j=>((vs[i]?.map fun v=>v.cells.toList).getD []).getD j undef) (fun h=>by have:=hM _ h;omega) (by rw[size_alloc];omega) (XB _)
    (by have:rows.length≤rows.length*sz:=Nat.le_mul_of_pos_right _ wZ;omega) (fun r hr=>?_) (fun r hr=>?_) (fun i j hi hj=>?_) (fun i j row d hi hj=>?_)
   ·obtain⟨j,hj,e⟩:=Yb hr;exact(bZ j r vs[j] (by rw[←e];exact Xk hj) (Xk (by omega))).2.2
   ·obtain⟨j,hj,e⟩:=Yb hr;exact(bZ j r vs[j] (by rw[←e];exact Xk hj) (Xk (by omega))).2.1
   ·have hv:vs[i]? =some vs[i]:=Xk (by omega);have hf:=cE (rows:=vs.map fun v=>v.cells.toList) gY i j hj;rw[Xz,hv]at hf;simp only[YS,jM,XG,List.getElem?_toArray,hf,hv,Ye,YI,Y6];have hl:j < vs[i].cells.toList.length:=by
     have:=Jf vs[i] (Ym (by omega));simpa[this]using hj
    simp[XK,Xk hl]
   ·have hi':i < rows.length:=(Xn.1 hi).1;have hv:vs[i]? =some vs[i]:=Xk (by omega);obtain⟨g1,g2,g3⟩:=bZ i row vs[i] hi hv;have hl:j < vs[i].cells.toList.length:=by rw[←g1.1];exact(Xn.1 hj).1
    have:=(g1.2 j d _ hj (Xk hl)).keep hk;simpa[hv,XK,Xk hl]using this
theorem uW {t e n sz nk:Nat}{parts:Array (Nat × Operand)}{ti te:TI}{rows:List (List PV)}(ho:o.op= .buildSlice t n parts)(ht:aU X.P t=some ti)(he':ti.elem=some e)(gR:aU X.P e=some te)
 (cT:te.size=sz) (wZ:0 < sz) (pi:0 < n) (RA:n*sz≤16777216) (Nr:rows.length=n) (ly:parts.size=n) (hk:s.heap nk= .none) (t5:¬nk < X.m) (hp:∀(j:Nat) (i:Nat) (x:Operand),parts[j]? =some (i,x)→i=j∧rows[j]? =some (cV (ev s x))∧yy (ev s x)=true∧(cV (ev s x)).length=sz):
 bJ X ops s o {pv:= .own nk 0,eff:=[(nk,.row e sz 0 rows)],touch:=[nk]}:=
 d6 hd (fun kc h=>by simp at h;subst h;simp) fun s' he io a w c hc=>by
  obtain⟨i,d,z,tk⟩:=iq ht;obtain⟨ie,de,ze,tke⟩:=iq gR;have kh:d= .slice e:=by
   have:=tk.elem;rw[he']at this;cases d<;>simp[gq]at this;rw[this]
  subst kh;obtain⟨vs,DQ⟩:∃vs:List Value,vs=parts.toList.map fun p=>a.eval p.2:=⟨_,rfl⟩;have P9:vs.length=n:=by rw[DQ];simpa using ly
  have bZ:∀(j:Nat) (ds:List PV) (v:Value),rows[j]? =some ds→vs[j]? =some v→bH c w ds v.cells.toList∧(∀e∈ds,e.one=true)∧ds.length=sz:=by
   intro j ds v hj hv;rw[DQ]at hv;simp only[Xz,X6,XO]at hv;obtain⟨⟨i,y⟩,hy,rfl⟩:=hv;obtain⟨-,g1,g3,g4⟩:=hp j i y hy;rw[hj]at g1;cases g1;have fU:y∈o.op.operands:=by
    rw[ho];simp only[Op.operands,_c,XQ];exact⟨(i,y),by simpa using Z1 hy,rfl⟩
   have bA:=bM hc y;rw[he y fU]at bA;obtain⟨r1,r2⟩:=kD bA g3;exact⟨r1,r2,g4⟩
  have Jf:∀v∈vs,v.cells.size=sz:=by
   intro v hv;obtain⟨j,hj,e⟩:=Yb hv;have U2:j < rows.length:=by omega
   have:=(bZ j rows[j] v (Xk U2) (by rw[←e];exact Xk hj));have h2:=this.1.1;simp at h2;omega
  have FJ:(parts.map fun(i,x)=>(i,a.eval x)).toList=((vs.zipIdx 0).map fun(v,j)=>(j,v)):=by
   apply Yj;intro j;simp only[Z9,Xz,List.getElem?_zipIdx,DQ,X6];cases hj:parts[j]? with
   |none=>rfl
   |some ix=>
    obtain⟨i,x⟩:=ix;obtain⟨rfl,-⟩:=hp j i x hj;simp
  have Qc:ze.cells.size=sz:=by rw[←cT,←tke.zsize,←tke.zcells];simp
  have MH:Instr.fill (fun i=>some (i*sz,sz)) ((_b (n*sz)).map (ze.cells[· % ze.cells.size]!)) (parts.map fun(i,x)=>(i,a.eval x)).toList=some ((vs.map fun v=>v.cells.toList).flatten).toArray:=by
   have:=sd (size:=sz) (fun i=>some (i*sz,sz)) (fun _=>rfl) vs 0 [] ((_b (n*sz)).map (ze.cells[· % ze.cells.size]!)).toList Jf (by simp) (by simp[P9]);rw[FJ];rw[Ya,Ya,V']at this;exact this
  have gY:∀r∈vs.map fun v=>v.cells.toList,r.length=sz:=by
   intro r hr;obtain⟨v,hv,rfl⟩:=XQ.1 hr;simpa using Jf v hv
  have hx:=jp w (.cells ((vs.map fun v=>v.cells.toList).flatten).toArray e);have hk':s'.heap nk= .none:=by rw[io nk (by simp)];exact hk
  have G7:(vs.map fun v=>v.cells.toList).flatten.length=n*sz:=by rw[cP gY];simp[P9]
  have bA:bH c w rows.flatten (vs.map fun v=>v.cells.toList).flatten:=by
   refine⟨?_,fun j d x hj hx=>?_⟩
   ·rw[cP (fun r hr=>?_),G7,Nr];obtain⟨j,hj,e⟩:=Yb hr;exact(bZ j r vs[j] (by rw[←e];exact Xk hj) (Xk (by omega))).2.2
   ·have zI:∀r∈rows,r.length=sz:=fun r hr=>by
     obtain⟨j,hj,e⟩:=Yb hr;exact(bZ j r vs[j] (by rw[←e];exact Xk hj) (Xk (by omega))).2.2
    have U3:j < n*sz:=by rw[←G7];exact(Xn.1 hx).1
    have q1:j / sz < n:=Zw (by rw[Zp];exact U3);have q2:j % sz < sz:=Y' _ wZ;have q3:j / sz*sz+j % sz=j:=by rw[Zp];exact ZN j sz
    rw[←q3,cE zI _ _ q2]at hj;rw[←q3,cE gY _ _ q2,Xz]at hx;have h1:rows[j / sz]? =some rows[j / sz]:=Xk (by omega);have h2:vs[j / sz]? =some vs[j / sz]:=Xk (by omega);rw[h1]at hj;rw[h2]at hx;exact(bZ _ _ _ h1 h2).1.2 _ d x hj hx
  have da:OwnV (w.alloc (.cells ((vs.map fun v=>v.cells.toList).flatten).toArray e)) e sz (.slice (some ⟨w.heap.size,0,none⟩) n n) rows.length ((vs.map fun v=>v.cells.toList).flatten):=by
   rw[Nr];refine .row _ n n _ _ pi (jM w _) (XB _) (by have:n≤n*sz:=Nat.le_mul_of_pos_right _ wZ;unfold maxLen;omega) (by simp only[YH];exact G7) G7 ?_;rw[Y1,XN (by omega)]
  obtain⟨c',q1,q2⟩:=hc.new_row (w':=w.alloc (.cells ((vs.map fun v=>v.cells.toList).flatten).toArray e)) hk' t5 e sz rows _ _ hx da (fun b hb=>by rw[dk pi]at hb;cases hb;exact XB _) bA (fun r hr=>by
   obtain⟨j,hj,e⟩:=Yb hr;exact(bZ j r vs[j] (by rw[←e];exact Xk hj) (Xk (by omega))).2.2) (fun r hr=>by
   obtain⟨j,hj,e⟩:=Yb hr;exact(bZ j r vs[j] (by rw[←e];exact Xk hj) (Xk (by omega))).2.1)
  refine⟨.value (.slice (some ⟨w.heap.size,0,none⟩) n n),_,w.alloc (.cells ((vs.map fun v=>v.cells.toList).flatten).toArray e),?_,.inl rfl,c',q1,q2⟩;have jH:∀o:Obj,({w with heap:=w.heap.push o}:World)=w.alloc o:=fun o=>(J' w o);have ct:(Instr.buildSlice t n (parts.map fun(i,x)=>(i,a.eval x))).run X.P w= .ok (.slice (some ⟨w.heap.size,0,none⟩) n n) (w.alloc (.cells ((vs.map fun v=>v.cells.toList).flatten).toArray e)):=by
   have bB:¬(n*sz=0):=Nat.ne_of_gt (Nat.mul_pos pi wZ);unfold Instr.buildSlice;simp only[Sem.run_bind,run_underlying tk.und,Result.andThen_ok,sizeOf,typeInfo,run_program,tke.info,Sem.run_pure,tke.size,cT];rw[if_neg (by omega),if_neg bB];simp only[Sem.run_bind,zeroValue,typeInfo,run_program,tke.info,Result.andThen_ok,Sem.run_pure,tke.zero,MH];simp[newRow,newObj,Sem.run,jH]
  simp only[execOp,ho];rw[Sem.run_bind,ct];rfl
theorem uX {t e nk:Nat}{ti te:TI}(ho:o.op= .buildSlice t 0 #[])(ht:aU X.P t=some ti)(he':ti.elem=some e)(gR:aU X.P e=some te)(hk:s.heap nk= .none)(t5:¬nk < X.m):
 bJ X ops s o {pv:= .own nk 0,eff:=[(nk,.row e te.size 0 [])],touch:=[nk]}:=
 d6 hd (fun kc h=>by simp at h;subst h;simp) fun s' he io a w c hc=>by
  obtain⟨i,d,z,tk⟩:=iq ht;obtain⟨ie,de,ze,tke⟩:=iq gR;have kh:d= .slice e:=by
   have:=tk.elem;rw[he']at this;cases d<;>simp[gq]at this;rw[this]
  subst kh;have hk':s'.heap nk= .none:=by rw[io nk (by simp)];exact hk
  obtain⟨c',q1,q2⟩:=hc.new_row (w':=w.alloc (.cells #[] e)) hk' t5 e te.size [] _ [] (jp w _) (.zero ⟨w.heap.size,0,none⟩) (fun b hb=>by cases hb) ⟨rfl,fun j d x h=>by simp at h⟩ (by simp) (by simp);refine⟨_,_,_,?_,.inl rfl,c',q1,q2⟩;have jH:∀o:Obj,({w with heap:=w.heap.push o}:World)=w.alloc o:=fun o=>(J' w o);have ct:(Instr.buildSlice t 0 #[]).run X.P w= .ok (.slice (some ⟨w.heap.size,0,none⟩) 0 0) (w.alloc (.cells #[] e)):=by
   simp[Instr.buildSlice,run_underlying tk.und,sizeOf,typeInfo,tke.info,Instr.fill,newRow,newObj,Sem.run,jH];rw[show Array.map (fun _=>(default:Value)) (_b 0)=#[] from Array.eq_empty_of_size_eq_zero (by simp)]
  simp only[execOp,ho];rw[Sem.run_bind];simp only[Array.map_empty,ct];rfl
theorem Ae {t e nk:Nat}{l x:Operand}{ti te:TI}{zv:Value}{k k':IntKind}{n:Int}(ho:o.op= .makeSlice t l x)(ht:aU X.P t=some ti)(he':ti.elem=some e)(gR:aU X.P e=some te)
 (rR:te.zero=[zv]) (pi:0 < n) (hb:(te.bytes:Int)*n≤281474976710656) (hm:n≤9223372036854775807) (hl:ev s l= .d (.v (.int k n))) (hx:ev s x= .d (.v (.int k' n))) (hk:s.heap nk= .none) (t5:¬nk < X.m):
 bJ X ops s o {pv:= .own nk 0,eff:=[(nk,.row e 1 0 (XV n.toNat [.d (.v zv)]))],touch:=[nk]}:=
 d6 hd (fun kc h=>by simp at h;subst h;simp) fun s' he io a w c hc=>by
  obtain⟨i,d,z,tk⟩:=iq ht;obtain⟨ie,de,ze,tke⟩:=iq gR;have kh:d= .slice e:=by
   have:=tk.elem;rw[he']at this;cases d<;>simp[gq]at this;rw[this]
  subst kh;have e1:=bM hc l;rw[he l (by simp[ho,Op.operands]),hl]at e1;have e2:=bM hc x;rw[he x (by simp[ho,Op.operands]),hx]at e2;have e3:a.eval l= .int k n:=by generalize a.eval l=u at e1;cases cp e1;rfl
  have e4:a.eval x= .int k' n:=by generalize a.eval x=u at e2;cases cp e2;rfl
  have Qc:ze.cells=#[zv]:=by apply _h;rw[tke.zcells,rR]
  have cT:ie.size=1:=by have:=tke.zsize;rw[rR]at this;rw[tke.size];simpa using this.symm
  have Tn:Go.madeCells ze.cells (n.toNat*ie.size)=(XV n.toNat zv).toArray:=by
   rw[Qc,cT,X'];apply _h;simp only[Go.madeCells,Z9,Array.toList_range];apply List.ext_getElem
   ·simp
   ·intro j h1 h2;simp[Nat.mod_one]
  have hk':s'.heap nk= .none:=by rw[io nk (by simp)];exact hk
  have zI:∀r∈XV n.toNat [PV.d (.v zv)],r=[PV.d (.v zv)]:=fun r hr=>Zv hr;have hflat:(XV n.toNat [PV.d (.v zv)]).flatten=XV n.toNat (PV.d (.v zv)):=by
   induction n.toNat with
   |zero=>rfl
   |succ m ih=>rw[List.replicate_succ,YU,ih];rfl
  have U4:zv.oneCell'=true:=tke.one zv (by rw[rR];simp);obtain⟨c',q1,q2⟩:=hc.new_row (w':=w.alloc (.cells (XV n.toNat zv).toArray e)) hk' t5 e 1 (XV n.toNat [PV.d (.v zv)]) (.slice (some ⟨w.heap.size,0,none⟩) n.toNat n.toNat) (XV n.toNat zv) (jp w _) (by
   rw[List.length_replicate];refine .row _ n.toNat n.toNat _ _ (by omega) (jM w _) (XB _) (by unfold maxLen;omega) (by simp) (by simp) ?_;rw[Y1,XN (by simp)]) (fun b hb=>by rw[dk (by omega)]at hb;cases hb;exact XB _) (by
   rw[hflat];refine⟨by simp,fun j d u hj hu=>?_⟩;rw[ZX]at hj hu;split at hj
   ·cases hj;rename_i hlt;rw[if_pos hlt]at hu;cases hu;exact .d _ _ (.v _)
   ·cases hj) (fun r hr=>by rw[zI r hr];rfl) (fun r hr d hd=>by rw[zI r hr]at hd;rw[Yc.1 hd];exact U4)
  refine⟨_,_,_,?_,.inl rfl,c',q1,q2⟩;have ct:=run_make (P:=X.P) w t e ie ze tk.und tke.info tke.zero k k' n n (by omega) (ZG _) (by rw[tke.bytes];exact hb) hm;rw[Tn]at ct;simp only[execOp,ho,e3,e4];rw[Sem.run_bind,ct];rfl
theorem EA {src dst:Nat}{x:Operand}{k k':IntKind}{n:Int}{ts td:TI}(ho:o.op= .convert src dst x)(hs:aU X.P src=some ts)(ht:aU X.P dst=some td)(hi:td.int=some k)(hx:ev s x= .d (.v (.int k' n))):
 bJ X ops s o {pv:= .d (.v (.int k (k.wrap n)))}:=
 aM hd fun s' he _ a w c hc=>by
  have h1:=df hc ((he x (by simp[ho,Op.operands])).trans hx);obtain⟨i,d,z,tk⟩:=iq hs;obtain⟨i2,d2,z2,tk2⟩:=iq ht;have zM:d2= .int k:=by
   have:=tk2.int;rw[hi]at this;cases d2<;>simp[NG]at this;rw[this]
  subst zM;refine⟨.int k (k.wrap n),?_,.d _ _ (.v _)⟩;have ct:(convert src dst (.int k' n)).run X.P w= .ok (.int k (k.wrap n)) w:=by
   simp[convert,run_underlying tk.und,run_underlying tk2.und,Conv.intToInt]
  simp only[execOp,ho,h1];rw[Sem.run_bind,ct];rfl
theorem Qw {x y:Operand}{tys:Array Nat}{k:IntKind}{m n:Int}(ho:o.op= .call {callee:= .builtin .min,args:=#[x,y],argTypes:=tys})(hx:ev s x= .d (.v (.int k m)))(hy:ev s y= .d (.v (.int k n))):
 bJ X ops s o {pv:= .d (.v (.int k (if n < m then n else m)))}:=
 aM hd fun s' he _ a w c hc=>by
  have h1:=df hc ((he x (by simp[ho,Op.operands,Call.operands])).trans hx);have h2:=df hc ((he y (by simp[ho,Op.operands,Call.operands])).trans hy);exact⟨.int k (if n < m then n else m),by simp[execOp,ho,resolve,h1,h2,invoke,builtin,Builtin.min_,Builtin.min2],.d _ _ (.v _)⟩
theorem Qx {x y:Operand}{tys:Array Nat}{k:IntKind}{m n:Int}(ho:o.op= .call {callee:= .builtin .max,args:=#[x,y],argTypes:=tys})(hx:ev s x= .d (.v (.int k m)))(hy:ev s y= .d (.v (.int k n))):
 bJ X ops s o {pv:= .d (.v (.int k (if m < n then n else m)))}:=
 aM hd fun s' he _ a w c hc=>by
  have h1:=df hc ((he x (by simp[ho,Op.operands,Call.operands])).trans hx);have h2:=df hc ((he y (by simp[ho,Op.operands,Call.operands])).trans hy);exact⟨.int k (if m < n then n else m),by simp[execOp,ho,resolve,h1,h2,invoke,builtin,Builtin.max_,Builtin.max2],.d _ _ (.v _)⟩
end
theorem mc (T:List Nat)(h:Nat→Chunk)(k:Nat):cH (T.map fun k=>(k,.gone)) h k=if k∈T then .gone else h k:=by
 induction T with
 |nil=>simp[cH]
 |cons a T ih=>
  simp only[Xm,cH];by_cases e:k=a
  ·simp[e]
  ·rw[if_neg e,ih];simp[e]
theorem RealC.freeze {X:Cfg}{s:FS}{a:Act}{w:World}{c:Cx}(h:RealC X s a w c)(T:List Nat):
 RealC X {s with heap:=cH (T.map fun k=>(k,.gone)) s.heap} a w {c with M:=lB c s.heap T}:=by
 have db:=mc T s.heap;have hk:=sb c s.heap T w;have cJ:∀k ch,Cx.block {c with M:=lB c s.heap T} k ch=c.block k ch:=fun k ch=>by cases ch<;>rfl
 have hle:c.le {c with M:=lB c s.heap T}:=⟨fun _ _ h=>h,fun _ _ _ h=>h⟩;refine⟨h.size,h.defers,h.ext,h.inv,h.fresh,fun b=>?_,fun k b hb=>?_,fun k k' b hb hb'=>?_,fun t=>(h.env t).keep hle hk,fun k=>?_,h.lent⟩
 ·constructor
  ·rintro⟨hm,hT⟩;rcases(h.mu b).1 hm with h0|⟨k,G8⟩
   ·exact .inl h0
   ·refine .inr ⟨k,?_⟩;have U5:k∉T:=fun dE=>hT k dE G8;simp only[db,if_neg U5,cJ];exact G8
  ·rintro (h0|⟨k,G8⟩)
   ·refine⟨(h.mu b).2 (.inl h0),fun k _ e=>?_⟩;rcases(h.new k b e).1 with h1|h1
    ·exact(h.fresh b h0).2 h1
    ·have:=(h.fresh b h0).1;omega
   ·simp only[db,cJ]at G8;split at G8
    ·simp[Cx.block]at G8
    ·rename_i U5;refine⟨(h.mu b).2 (.inr ⟨k,G8⟩),fun k' hk' e=>?_⟩;have:=h.apart k k' b G8 e;subst this;exact U5 hk'
 ·simp only[db,cJ]at hb;split at hb
  ·simp[Cx.block]at hb
  ·exact h.new k b hb
 ·simp only[db,cJ]at hb hb';split at hb
  ·simp[Cx.block]at hb
  ·split at hb'
   ·simp[Cx.block]at hb'
   ·exact h.apart k k' b hb hb'
 ·simp only[db];split
  ·exact .gone
  ·exact(h.chunk k).keep hle hk (fun _ _=>rfl) rfl rfl
abbrev cw:=List (Nat × PV)
def ft:cw→Nat→PV
 |[],_=> .any
 |(a,p)::l,t=>if t=a then p else ft l t
def aG:List Chunk→Nat→Chunk
 |[],_=> .none
 |c::_,0=>c
 |_::l,k+1=>aG l k
def bQ (e:cw)(h:List Chunk):FS:=⟨ft e,aG h⟩
def dK (e:cw):Operand→PV
 | .tmp t=>ft e t
 | .const v=> .d (.v v)
 | .func f=> .d (.clo f [])
 | .global _=> .any
theorem aD (e:cw)(h:List Chunk)(x:Operand):ev (bQ e h) x=dK e x:=by cases x<;>rfl
mutual
def aq (n:Nat):PV→Bool
 | .ptr k _=>decide (k < n)
 | .own k _=>decide (k < n)
 | .rp k _ _ _ _=>decide (k < n)
 | .osl k _ _ _ _=>decide (k < n)
 | .mref k=>decide (k < n)
 | .agg l=>an n l
 | .tup l=>an n l
 | .clo _ caps=>an n caps
 | .d _=>true
 | .any=>true
def an (n:Nat):List PV→Bool
 |[]=>true
 |p::l=>aq n p&&an n l
end
theorem js {n:Nat}:∀{l:List PV},an n l=true→∀p∈l,aq n p=true
 |q::l,h,p,hp=>by
  simp only[an,Xy]at h;rcases X7.1 hp with rfl|hp
  ·exact h.1
  ·exact js h.2 p hp
def cF (n:Nat):List (List PV)→Bool
 |[]=>true
 |r::l=>an n r&&cF n l
theorem bj (n:Nat):∀(l:List D),an n (l.map .d)=true
 |[]=>rfl
 |x::l=>by simp only[Xm,an,aq,bj n l,Yp]
theorem az (n:Nat):∀(l:List (List D)),cF n (ab l)=true
 |[]=>rfl
 |x::l=>by
  have:=az n l;simp only[ab]at this;simp only[ab,Xm,cF,bj,this,Yp]
def aQ (n:Nat):Chunk→Bool
 | .box _ cells=>an n cells
 | .row _ _ _ rows=>cF n rows
 |_=>true
def aH (n:Nat):List Chunk→Bool
 |[]=>true
 |c::l=>aQ n c&&aH n l
def ek (n:Nat):cw→Bool
 |[]=>true
 |(_,p)::l=>aq n p&&ek n l
def Ht (e:cw):cw→Prop
 |[]=>True
 |(t,p)::l=>ft e t=p∧Ht e l
theorem uY {n:Nat}:∀{e:cw},ek n e=true→∀t,aq n (ft e t)=true
 |[],_,_=>rfl
 |(t',p)::l,h,t=>by
  simp only[ek,Xy]at h;simp only[ft];by_cases ht:t=t'
  ·rw[if_pos ht];exact h.1
  ·rw[if_neg ht];exact uY h.2 t
theorem sf {n:Nat}:∀{h:List Chunk},aH n h=true→∀k,aQ n (aG h k)=true
 |[],_,_=>rfl
 |c::l,h,k=>by
  simp only[aH,Xy]at h;cases k with
  |zero=>exact h.1
  |succ k=>exact sf h.2 k
mutual
def ren (ρ:Nat→Nat):PV→PV
 | .d x=> .d x
 | .any=> .any
 | .ptr k o=> .ptr (ρ k) o
 | .own k g=> .own (ρ k) g
 | .rp k g sz i j=> .rp (ρ k) g sz i j
 | .osl k g sz a n=> .osl (ρ k) g sz a n
 | .clo g caps=> .clo g (iR ρ caps)
 | .agg l=> .agg (iR ρ l)
 | .tup l=> .tup (iR ρ l)
 | .mref k=> .mref (ρ k)
def iR (ρ:Nat→Nat):List PV→List PV
 |[]=>[]
 |p::l=>ren ρ p::iR ρ l
end
def jN (ρ:Nat→Nat):List (List PV)→List (List PV)
 |[]=>[]
 |r::l=>iR ρ r::jN ρ l
def lu (ρ:Nat→Nat):Chunk→Chunk
 | .box T cells=> .box T (iR ρ cells)
 | .row E sz g rows=> .row E sz g (jN ρ rows)
 |c=>c
theorem cX (ρ:Nat→Nat):∀(l:List PV),iR ρ l=l.map (ren ρ)
 |[]=>rfl
 |p::l=>by simp only[iR,cX ρ l,Xm]
theorem eK (ρ:Nat→Nat):∀(l:List (List PV)),jN ρ l=l.map (·.map (ren ρ))
 |[]=>rfl
 |p::l=>by simp only[jN,eK ρ l,cX,Xm]
theorem EB (ρ:Nat→Nat):∀(l:List D),iR ρ (l.map .d)=l.map .d
 |[]=>rfl
 |x::l=>by simp only[Xm,iR,ren,EB ρ l]
theorem uZ (ρ:Nat→Nat):∀(l:List (List D)),jN ρ (ab l)=ab l
 |[]=>rfl
 |x::l=>by
  have:=uZ ρ l;simp only[ab]at this;simp only[ab,Xm,jN,EB,this]
theorem JW (ρ:Nat→Nat)(l:List (List PV))(i:Nat)(r:List PV):jN ρ (l.set i r)=(jN ρ l).set i (iR ρ r):=by
 simp only[eK,cX,List.map_set]
theorem BH (ρ:Nat→Nat)(l:List (List PV)):(jN ρ l).length=l.length:=by rw[eK,XD]
theorem oT (ρ:Nat→Nat)(p:PV):(ren ρ p).one=p.one:=by cases p<;>rfl
theorem qH (ρ:Nat→Nat)(l:List (List PV)):(jN ρ l).flatten=l.flatten.map (ren ρ):=by
 rw[eK,List.map_flatten]
theorem RepP.ren {c c2:Cx}{w:World}{ρ:Nat→Nat}{p:PV}{v:Value}(h:RepP c w p v)(hM:∀d x,RepD c.M w d x→RepD c2.M w d x)(hb:∀k b,c.bl k=some b→c2.bl (ρ k)=some b)(ho:∀k g u,c.ov k g=some u→c2.ov (ρ k) g=some u):RepP c2 w (ren ρ p) v:=by
 induction h with
 |d x v h=>exact .d x v (hM x v h)
 |any v=>exact .any v
 |ptr k off b h=>exact .ptr _ off b (hb _ _ h)
 |own k g v h h1=>exact .own _ g v (ho _ _ _ h) h1
 |rp k g sz i j b n cap h=>exact .rp _ g sz i j b n cap (ho _ _ _ h)
 |osl k g sz a n b o N cap h hn hc h2=>exact .osl _ g sz a n b o N cap (ho _ _ _ h) hn hc h2
 |clo g caps vs hl bA ih=>
  refine .clo g _ vs (by rw[cX,XD];exact hl) fun j d x hj hx=>?_;rw[cX,Xz,XO]at hj;obtain⟨y,hy,rfl⟩:=hj;exact ih j y x hy hx
 |agg caps vs hl h1 bA ih=>
  refine .agg _ vs (by rw[cX,XD];exact hl) (fun d hd=>?_) fun j d x hj hx=>?_
  ·rw[cX]at hd;obtain⟨y,hy,rfl⟩:=XQ.1 hd;rw[oT];exact h1 y hy
  ·rw[cX,Xz,XO]at hj;obtain⟨y,hy,rfl⟩:=hj;exact ih j y x hy hx
 |tup caps vs hl bA ih=>
  refine .tup _ vs (by rw[cX,XD];exact hl) fun j d x hj hx=>?_;rw[cX,Xz,XO]at hj;obtain⟨y,hy,rfl⟩:=hj;exact ih j y x hy hx
 |mref k b h=>exact .mref _ b (hb _ _ h)
theorem bH.ren {c c2:Cx}{w:World}{ρ:Nat→Nat}{ps:List PV}{vs:List Value}(h:bH c w ps vs)(hM:∀d x,RepD c.M w d x→RepD c2.M w d x)(hb:∀k b,c.bl k=some b→c2.bl (ρ k)=some b)(ho:∀k g u,c.ov k g=some u→c2.ov (ρ k) g=some u):bH c2 w (ps.map (ren ρ)) vs:=by
 refine⟨by rw[XD];exact h.1,fun j d x hj hx=>?_⟩;rw[Xz,XO]at hj;obtain⟨y,hy,rfl⟩:=hj;exact(h.2 j y x hy hx).ren hM hb ho
mutual
theorem SD {c c1:Cx}{w:World}{ρ:Nat→Nat}{m:Nat}(hM:∀d x,RepD c.M w d x→RepD c1.M w d x)(hb:∀j,j < m→∀b,c.bl (ρ j)=some b→c1.bl j=some b)(ho:∀j,j < m→∀g u,c.ov (ρ j) g=some u→c1.ov j g=some u):∀(p:PV) (v:Value),aq m p=true→RepP c w (ren ρ p) v→RepP c1 w p v
 | .d x,v,_,h=>by
  simp only[Go.Proofs.YtmicljipaiohkaaGreat.ren]at h;cases h with|d _ _ h=>exact .d x v (hM x v h)
 | .any,v,_,_=> .any v
 | .ptr k off,v,hk,h=>by
  simp only[Go.Proofs.YtmicljipaiohkaaGreat.ren]at h;simp only[aq,decide_eq_true_eq]at hk;cases h with|ptr _ _ b h=>exact .ptr k off b (hb k hk b h)
 | .own k g,v,hk,h=>by
  simp only[Go.Proofs.YtmicljipaiohkaaGreat.ren]at h;simp only[aq,decide_eq_true_eq]at hk;cases h with|own _ _ _ h h1=>exact .own k g v (ho k hk g v h) h1
 | .rp k g sz i j,v,hk,h=>by
  simp only[Go.Proofs.YtmicljipaiohkaaGreat.ren]at h;simp only[aq,decide_eq_true_eq]at hk;cases h with|rp _ _ _ _ _ b n cap h=>exact .rp k g sz i j b n cap (ho k hk g _ h)
 | .osl k g sz a n,v,hk,h=>by
  simp only[Go.Proofs.YtmicljipaiohkaaGreat.ren]at h;simp only[aq,decide_eq_true_eq]at hk;cases h with|osl _ _ _ _ _ b o N cap h hn hc h2=>exact .osl k g sz a n b o N cap (ho k hk g _ h) hn hc h2
 | .mref k,v,hk,h=>by
  simp only[Go.Proofs.YtmicljipaiohkaaGreat.ren]at h;simp only[aq,decide_eq_true_eq]at hk;cases h with|mref _ b h=>exact .mref k b (hb k hk b h)
 | .clo g caps,v,hk,h=>by
  simp only[Go.Proofs.YtmicljipaiohkaaGreat.ren]at h;simp only[aq]at hk;cases h with
  |clo _ _ vs hl bA=>
   rw[cX,XD]at hl;exact .clo g caps vs hl (pP hM hb ho caps vs hk bA)
 | .agg caps,v,hk,h=>by
  simp only[Go.Proofs.YtmicljipaiohkaaGreat.ren]at h;simp only[aq]at hk;cases h with
  |agg _ vs hl h1 bA=>
   rw[cX,XD]at hl;refine .agg caps vs hl (fun d hd=>?_) (pP hM hb ho caps vs hk bA);rw[←oT ρ];exact h1 _ (by rw[cX];exact Y8 hd)
 | .tup caps,v,hk,h=>by
  simp only[Go.Proofs.YtmicljipaiohkaaGreat.ren]at h;simp only[aq]at hk;cases h with
  |tup _ vs hl bA=>
   rw[cX,XD]at hl;exact .tup caps vs hl (pP hM hb ho caps vs hk bA)
theorem pP {c c1:Cx}{w:World}{ρ:Nat→Nat}{m:Nat}(hM:∀d x,RepD c.M w d x→RepD c1.M w d x)(hb:∀j,j < m→∀b,c.bl (ρ j)=some b→c1.bl j=some b)(ho:∀j,j < m→∀g u,c.ov (ρ j) g=some u→c1.ov j g=some u):∀(l:List PV) (vs:List Value),an m l=true→(∀(j:Nat) (d:PV) (x:Value),(iR ρ l)[j]? =some d→vs[j]? =some x→RepP c w d x)→∀(j:Nat) (d:PV) (x:Value),l[j]? =some d→vs[j]? =some x→RepP c1 w d x
 |[],_,_,_,j,d,x,hj,_=>by simp at hj
 |p::l,[],_,_,j,d,x,_,hx=>by simp at hx
 |p::l,v::vs,hk,h,j,d,x,hj,hx=>by
  simp only[an,Xy]at hk;cases j with
  |zero=>
   have e1:p=d:=by simpa using hj
   have e2:v=x:=by simpa using hx
   rw[←e1,←e2];exact SD hM hb ho p v hk.1 (h 0 _ v rfl rfl)
  |succ j=>exact pP hM hb ho l vs hk.2 (fun j d x h1 h2=>h (j+1) d x h1 (by simpa using h2)) j d x (by simpa using hj) (by simpa using hx)
end
theorem tv {m:Nat}{rows:List (List PV)}(h:cF m rows=true):an m rows.flatten=true:=by
 induction rows with
 |nil=>rfl
 |cons r rows ih=>
  simp only[cF,Xy]at h;have app:∀(a b:List PV),an m a=true→an m b=true→an m (a++b)=true:=by
   intro a b ha hb;induction a with
   |nil=>exact hb
   |cons x a iha=>
    simp only[an,Xy]at ha;simp only[X8,an,ha.1,iha ha.2,Yp]
  rw[YU];exact app _ _ h.1 (ih h.2)
def JX:Act:={tmps:=#[],defers:=[]}
structure MSpec (P:Program)(f:Nat)(args:List PV)(h0:List Chunk)(r:PV)(h1:List Chunk):Prop where
 fn:xB P f
 le:h0.length≤h1.length
 ba:an h0.length args=true
 bh:aH h0.length h0=true
 run:∀X:Cfg,X.P=P→X.n=0→X.m=h0.length→∀(w:World) (c:Cx) (vs:List Value),RealC X (bQ [] h0) JX w c→bH c w args vs→
  Calls P f vs.toArray w fun e w'=>∃v c',e= .returned v∧RepP c' w' r v∧RealC X (bQ [] h1) JX w' c'
def eF:List Nat→Nat→Nat→Nat
 |[],nk,j=>nk+j
 |k::_,_,0=>k
 |_::l,nk,j+1=>eF l nk j
theorem kn:∀(ls:List Nat) (nk j:Nat),eF ls nk (ls.length+j)=nk+j
 |[],nk,j=>by simp[eF]
 |k::l,nk,j=>by
  rw[XA,show l.length+1+j=(l.length+j)+1 by omega];exact kn l nk j
theorem mS:∀{ls:List Nat}{nk j:Nat},j < ls.length→ls[j]? =some (eF ls nk j)
 |k::l,nk,0,_=>rfl
 |k::l,nk,j+1,h=>by simpa[eF]using mS (ls:=l) (nk:=nk) (j:=j) (by simpa using h)
theorem Af {ls:List Nat}{nk:Nat}(hn:ls.Nodup)(hlt:∀k∈ls,k < nk){i j:Nat}(h:eF ls nk i=eF ls nk j):i=j:=by
 have old:∀i,i < ls.length→eF ls nk i < nk:=fun i hi=>hlt _ (Xl (mS hi));rcases XP i ls.length with hi|hi<;>rcases XP j ls.length with hj|hj
 ·have h1:=mS (nk:=nk) hi;have h2:=mS (nk:=nk) hj;rw[h]at h1;rw[Xk hi]at h1;rw[Xk hj]at h2;have h3:ls[i]=ls[j]:=XX.inj (h1.trans h2.symm);exact(List.getElem_inj (h₀:=hi) (h₁:=hj) hn).1 h3
 ·have:=old i hi;have h2:=kn ls nk (j - ls.length);rw[show ls.length+(j - ls.length)=j by omega]at h2;omega
 ·have:=old j hj;have h2:=kn ls nk (i - ls.length);rw[show ls.length+(i - ls.length)=i by omega]at h2;omega
 ·have h1:=kn ls nk (i - ls.length);have h2:=kn ls nk (j - ls.length);rw[show ls.length+(i - ls.length)=i by omega]at h1;rw[show ls.length+(j - ls.length)=j by omega]at h2;omega
def ko (ρ:Nat→Nat):Nat→List Chunk→List (Nat × Chunk)
 |_,[]=>[]
 |j,c::l=>(ρ j,lu ρ c)::ko ρ (j+1) l
def ax (h:Nat→Chunk)(ρ:Nat→Nat):Nat→List Chunk→Prop
 |_,[]=>True
 |j,c::l=>h (ρ j)=lu ρ c∧ax h ρ (j+1) l
theorem yE {h:Nat→Chunk}{ρ:Nat→Nat}:∀{l:List Chunk}{i:Nat},ax h ρ i l→∀{j:Nat},j < l.length→h (ρ (i+j))=lu ρ (aG l j)
 |c::l,i,⟨h1,h2⟩,0,_=>h1
 |c::l,i,⟨h1,h2⟩,j+1,hj=>by
  have:=yE h2 (j:=j) (by simpa using hj);rw[show i+1+j=i+(j+1) by omega]at this;exact this
theorem sg (ρ:Nat→Nat):∀(l:List Chunk) (i:Nat),(ko ρ i l).map (·.1)=(X5 l.length).map fun j=>ρ (i+j)
 |[],i=>rfl
 |c::l,i=>by
  rw[ko,Xm,sg ρ l (i+1),XA,List.range_succ_eq_map,Xm,List.map_map];congr 1;refine Zr fun j _=>?_;simp only[Function.comp];rw[show i+1+j=i+(j+1) by omega]
theorem Ag {ρ:Nat→Nat}(To:∀i j,ρ i=ρ j→i=j){h:Nat→Chunk}:∀(l:List Chunk) (i j:Nat),j < l.length→cH (ko ρ i l) h (ρ (i+j))=lu ρ (aG l j)
 |c::l,i,0,_=>by simp[ko,cH,aG]
 |c::l,i,j+1,hj=>by
  simp only[ko,cH];rw[if_neg (fun e=>by have:=To _ _ e;omega)];have:=Ag To (h:=h) l (i+1) j (by simpa using hj);rw[show i+1+j=i+(j+1) by omega]at this;exact this
theorem BI {ρ:Nat→Nat}{h:Nat→Chunk}{k:Nat}:∀(l:List Chunk) (i:Nat),(∀j,j < l.length→ρ (i+j)≠k)→cH (ko ρ i l) h k=h k
 |[],_,_=>rfl
 |c::l,i,hk=>by
  simp only[ko,cH];rw[if_neg (fun e=>hk 0 (by simp) (by simpa using e.symm))];exact BI l (i+1) fun j hj e=>hk (j+1) (by simpa using hj) (by rw[←e];congr 1;omega)
theorem Qy {c c1:Cx}{w:World}{ρ:Nat→Nat}{m j:Nat}{ch:Chunk}(hM:∀d x,RepD c.M w d x→RepD c1.M w d x)(U6:∀b,c1.M b→c.M b)(hb:∀j,j < m→∀b,c.bl (ρ j)=some b→c1.bl j=some b)(ho:∀j,j < m→∀g u,c.ov (ρ j) g=some u→c1.ov j g=some u)
 (Pv:c1.bl j=c.bl (ρ j)) (Pw:c1.ov j=c.ov (ρ j)) (A4:aQ m ch=true) (h:ChunkOK c w (ρ j) (lu ρ ch)):ChunkOK c1 w j ch:=by
 cases ch with
 |none=>cases h with|none h1 h2=>exact .none (Pv.trans h1) (fun g=>by rw[Pw];exact h2 g)
 |gone=>exact .gone
 |mp nB sB ents=>cases h with|mp _ _ _ b hb hh hn=>exact .mp nB sB ents b (Pv.trans hb) hh hn
 |it nB sB ents seen=>cases h with|it _ _ _ _ b bm hb hh hM hm=>exact .it nB sB ents seen b bm (Pv.trans hb) hh (fun h=>hM (U6 _ h)) hm
 |box T cells=>
  cases h with
  |box _ _ b vs h1 h2 h3 h4=>
   refine .box T cells b vs (Pv.trans h1) h2 ⟨by rw[←h3.1,cX,XD],pP hM hb ho cells vs (by simpa[aQ]using A4) h3.2⟩ (fun d hd=>?_);rw[←oT ρ];exact h4 _ (by rw[cX];exact Y8 hd)
 |row E sz g rows=>
  cases h with
  |row _ _ _ _ v xs h1 h2 h3 h4 h5 h6=>
   rw[BH]at h2;rw[qH]at h3;refine .row E sz g rows v xs (by rw[Pw];exact h1) h2 ⟨by rw[←h3.1,XD],pP (ρ:=ρ) hM hb ho rows.flatten xs (tv (by simpa[aQ]using A4)) (fun j d x hj hx=>h3.2 j d x (by rw[←cX];exact hj) hx)⟩ (fun r hr=>?_) (fun r hr d hd=>?_) (fun g' hg=>by rw[Pw];exact h6 g' hg)
   ·have:=h4 (r.map (ren ρ)) (by rw[eK];exact Y8 (f:=(List.map (ren ρ))) hr);simpa using this
   ·have:=h5 (r.map (ren ρ)) (by rw[eK];exact Y8 (f:=(List.map (ren ρ))) hr) (ren ρ d) (Y8 hd);rwa [oT]at this
theorem NN {c c2:Cx}{w:World}{ρ:Nat→Nat}{j:Nat}{ch:Chunk}(hM:∀d x,RepD c.M w d x→RepD c2.M w d x)(U6:∀b,c2.M b→c.M b)(hb:∀k b,c.bl k=some b→c2.bl (ρ k)=some b)(ho:∀k g u,c.ov k g=some u→c2.ov (ρ k) g=some u)
 (Pv:c2.bl (ρ j)=c.bl j) (Pw:c2.ov (ρ j)=c.ov j) (h:ChunkOK c w j ch):ChunkOK c2 w (ρ j) (lu ρ ch):=by
 cases h with
 |none h1 h2=>exact .none (Pv.trans h1) (fun g=>by rw[Pw];exact h2 g)
 |gone=>exact .gone
 |mp nB sB ents b hb hh hn=>exact .mp nB sB ents b (Pv.trans hb) hh hn
 |it nB sB ents seen b bm hb hh hM hm=>exact .it nB sB ents seen b bm (Pv.trans hb) hh (fun h=>hM (U6 _ h)) hm
 |box T cells b vs h1 h2 h3 h4=>
  refine .box T _ b vs (Pv.trans h1) h2 (by rw[cX];exact h3.ren hM hb ho) (fun d hd=>?_);rw[cX]at hd;obtain⟨y,hy,rfl⟩:=XQ.1 hd;rw[oT];exact h4 y hy
 |row E sz g rows v xs h1 h2 h3 h4 h5 h6=>
  refine .row E sz g _ v xs (by rw[Pw];exact h1) (by rw[BH];exact h2) (by rw[qH];exact h3.ren hM hb ho) (fun r hr=>?_) (fun r hr d hd=>?_) (fun g' hg=>by rw[Pw];exact h6 g' hg)
  ·rw[eK]at hr;obtain⟨y,hy,rfl⟩:=XQ.1 hr;rw[XD];exact h4 y hy
  ·rw[eK]at hr;obtain⟨y,hy,rfl⟩:=XQ.1 hr;obtain⟨z,hz,rfl⟩:=XQ.1 hd;rw[oT];exact h5 y hy z hz
theorem yF {c c1:Cx}{ρ:Nat→Nat}{j:Nat}{ch:Chunk}(hb:c1.bl j=c.bl (ρ j))(ho:c1.ov j=c.ov (ρ j)):c1.block j ch=c.block (ρ j) (lu ρ ch):=by
 cases ch<;>simp[Cx.block,lu,hb,ho]
theorem md:∀(l:List Chunk) (k:Nat),l.length≤k→aG l k= .none
 |[],_,_=>rfl
 |c::l,0,h=>by simp at h
 |c::l,k+1,h=>by simpa[aG]using md l k (by simpa using h)
theorem RealC.back {X:Cfg}{s:FS}{a:Act}{w w':World}{c c2:Cx}(hc:RealC X s a w c){h0 h1:List Chunk}{ls:List Nat}{nk:Nat}{X1:Cfg}(U7:X1.w0=w∧X1.m=h0.length∧
 (∀b,X1.L b↔∃j,j < h0.length∧c.block (eF ls nk j) (s.heap (eF ls nk j))=some b)∧(∀b,X1.M0 b↔c.M b∧¬X1.L b)∧(∀j,j < h0.length→X1.c0.bl j=c.bl (eF ls nk j)∧X1.c0.ov j=c.ov (eF ls nk j)))
 (Wv:h0.length≤h1.length) (hl:ls.length=h0.length) (lm:ls.Nodup) (hlt:∀k∈ls,k < nk) (jH:∀i,h0.length+i < h1.length→s.heap (nk+i)= .none) (Jg:X.m≤nk)
 (h:RealC X1 (bQ [] h1) JX w' c2) {p:PV}{v:Value} (hp:RepP c2 w' p v):
 ∃c3,RealC X {s with heap:=cH (ko (eF ls nk) 0 h1) s.heap} a w' c3∧RepP c3 w' (ren (eF ls nk) p) v:=by
 obtain⟨RB,ur,hL,Ww,Jh⟩:=U7;generalize hρ:eF ls nk=ρ at*;have inj:∀i j,ρ i=ρ j→i=j:=fun i j e=>by rw[←hρ]at e;exact Af lm hlt e
 have new_id:∀i,ρ (h0.length+i)=nk+i:=fun i=>by rw[←hρ,←hl];exact kn ls nk i
 have old_id:∀j,j < h0.length→ρ j < nk:=fun j hj=>by rw[←hρ];exact hlt _ (Xl (mS (by omega)))
 have new_none:∀j,h0.length≤j→j < h1.length→s.heap (ρ j)= .none:=fun j h2 h3=>by
  have:=new_id (j - h0.length);rw[show h0.length+(j - h0.length)=j by omega]at this;rw[this];exact jH _ (by omega)
 have i9:=h.lent;rw[ur]at i9;let c3:Cx:={M:=c2.M,bl:=fun k=>open Classical in if e:∃j,j < h1.length∧ρ j=k then c2.bl e.choose else c.bl k,ov:=fun k=>open Classical in if e:∃j,j < h1.length∧ρ j=k then c2.ov e.choose else c.ov k}
 have in_bl:∀j,j < h1.length→c3.bl (ρ j)=c2.bl j∧c3.ov (ρ j)=c2.ov j:=by
  intro j hj;have e:∃i,i < h1.length∧ρ i=ρ j:=⟨j,hj,rfl⟩;have e2:=inj _ _ e.choose_spec.2;refine⟨?_,?_⟩
  ·show (if e:∃i,i < h1.length∧ρ i=ρ j then c2.bl e.choose else c.bl (ρ j))=_;rw[dif_pos e,e2]
  ·show (if e:∃i,i < h1.length∧ρ i=ρ j then c2.ov e.choose else c.ov (ρ j))=_;rw[dif_pos e,e2]
 have off_bl:∀k,(∀j,j < h1.length→ρ j≠k)→c3.bl k=c.bl k∧c3.ov k=c.ov k:=by
  intro k hk;have e:¬∃j,j < h1.length∧ρ j=k:=fun⟨j,h1,h2⟩=>hk j h1 h2;refine⟨?_,?_⟩
  ·show (if e:∃i,i < h1.length∧ρ i=k then c2.bl e.choose else c.bl k)=_;rw[dif_neg e]
  ·show (if e:∃i,i < h1.length∧ρ i=k then c2.ov e.choose else c.ov k)=_;rw[dif_neg e]
 have far:∀j,h1.length≤j→c2.bl j=none∧∀g,c2.ov j g=none:=by
  intro j hj;have:=h.chunk j;rw[show (bQ [] h1).heap j= .none from md h1 j hj]at this;cases this with|none a b=>exact⟨a,b⟩
 have fwd_b:∀k b,c2.bl k=some b→c3.bl (ρ k)=some b:=by
  intro k b hb;rcases XP k h1.length with hk|hk
  ·rw[(in_bl k hk).1];exact hb
  ·rw[(far k hk).1]at hb;cases hb
 have fwd_o:∀k g u,c2.ov k g=some u→c3.ov (ρ k) g=some u:=by
  intro k g u hu;rcases XP k h1.length with hk|hk
  ·rw[(in_bl k hk).2];exact hu
  ·rw[(far k hk).2]at hu;cases hu
 have lent_bl:∀j,j < h0.length→c2.bl j=c.bl (ρ j)∧∀g u,c.ov (ρ j) g=some u→c2.ov j g=some u:=by
  intro j hj;obtain⟨q1,q2⟩:=i9 j hj;obtain⟨q3,q4⟩:=Jh j hj;exact⟨q1.trans q3,fun g u hu=>q2 g u (by rw[q4];exact hu)⟩
 have hle:c.le c3:=by
  refine⟨fun k b hb=>?_,fun k g u hu=>?_⟩
  ·by_cases e:∃j,j < h1.length∧ρ j=k
   ·obtain⟨j,hj,rfl⟩:=e;rw[(in_bl j hj).1];rcases XP j h0.length with h2|h2
    ·rw[(lent_bl j h2).1];exact hb
    ·have:=hc.chunk (ρ j);rw[new_none j h2 hj]at this;cases this with|none a b2=>rw[a]at hb;cases hb
   ·rw[(off_bl k fun j hj e2=>e ⟨j,hj,e2⟩).1];exact hb
  ·by_cases e:∃j,j < h1.length∧ρ j=k
   ·obtain⟨j,hj,rfl⟩:=e;rw[(in_bl j hj).2];rcases XP j h0.length with h2|h2
    ·exact(lent_bl j h2).2 g u hu
    ·have:=hc.chunk (ρ j);rw[new_none j h2 hj]at this;cases this with|none a b2=>rw[b2]at hu;cases hu
   ·rw[(off_bl k fun j hj e2=>e ⟨j,hj,e2⟩).2];exact hu
 have blk_in:∀j,j < h1.length→c3.block (ρ j) (cH (ko ρ 0 h1) s.heap (ρ j))=c2.block j (aG h1 j):=by
  intro j hj;have e:=Ag inj (h:=s.heap) h1 0 j hj;rw[XG]at e;rw[e];exact(yF (in_bl j hj).1.symm (in_bl j hj).2.symm).symm
 have blk_off:∀k,(∀j,j < h1.length→ρ j≠k)→cH (ko ρ 0 h1) s.heap k=s.heap k∧c3.block k (s.heap k)=c.block k (s.heap k):=by
  intro k hk;refine⟨BI h1 0 fun j hj=>by rw[XG];exact hk j hj,?_⟩;obtain⟨q1,q2⟩:=off_bl k hk;cases s.heap k<;>simp[Cx.block,q1,q2]
 have blk_far:∀j b,c2.block j (aG h1 j)=some b→j < h1.length:=by
  intro j b hb;rcases XP j h1.length with hj|hj
  ·exact hj
  ·rw[md h1 j hj]at hb;cases hb
 have ye:=h.ext;rw[RB]at ye;have L_M:∀b,X1.L b→c.M b:=fun b hb=>by
  obtain⟨j,hj,e⟩:=(hL b).1 hb;exact(hc.mu b).2 (.inr ⟨_,e⟩)
 have L_new:∀b,X1.L b→X.L b∨X.w0.heap.size≤b:=fun b hb=>by
  obtain⟨j,hj,e⟩:=(hL b).1 hb;exact(hc.new _ b e).1
 have Tp:=h.mu;have lM:Keep c.M w c3.M w':=by
  refine⟨ye.size,fun b hb hm=>ye.block b hb (fun e=>hm (L_M b e)),fun b hb hm=>?_⟩;rcases(Tp b).1 hm with h2|⟨k,h2⟩
  ·exact((Ww b).1 h2).1
  ·rcases(h.new k b h2).1 with h3|h3
   ·exact L_M b h3
   ·rw[RB]at h3;omega
 have off_L:∀k b,(∀j,j < h1.length→ρ j≠k)→c.block k (s.heap k)=some b→¬X1.L b:=by
  intro k b hk hb hb';obtain⟨j,hj,e⟩:=(hL b).1 hb';exact hk j (by omega) (hc.apart _ _ b e hb)
 refine⟨c3,⟨hc.size,hc.defers,?_,hc.inv,hc.fresh,fun b=>?_,fun k b hb=>?_,fun k k' b hb hb'=>?_,fun t=>(hc.env t).keep hle lM,fun k=>?_,fun k hk=>?_⟩,hp.ren (c2:=c3) (fun _ _ h=>h) fwd_b fwd_o⟩
 ·refine⟨ye.os.trans hc.ext.os,ye.tape.trans hc.ext.tape,ye.output.trans hc.ext.output,Yz hc.ext.size ye.size,fun b hb Nr=>?_⟩;refine(ye.block b (Yy hb hc.ext.size) fun e=>?_).trans (hc.ext.block b hb Nr);rcases L_new b e with h2|h2
  ·exact Nr h2
  ·omega
 ·show c2.M b↔_;rw[Tp b,Ww b,hc.mu b];constructor
  ·rintro (⟨h2|⟨k,h2⟩,h3⟩|⟨j,h2⟩)
   ·exact .inl h2
   ·refine .inr ⟨k,?_⟩;have hk:∀j,j < h1.length→ρ j≠k:=fun j hj e=>by
     subst e;rcases XP j h0.length with h4|h4
     ·exact h3 ((hL b).2 ⟨j,h4,h2⟩)
     ·rw[new_none j h4 hj]at h2;cases h2
    simp only[(blk_off k hk).1,(blk_off k hk).2];exact h2
   ·refine .inr ⟨ρ j,?_⟩;simp only[blk_in j (blk_far j b h2)];exact h2
  ·rintro (h2|⟨k,h2⟩)
   ·refine .inl ⟨.inl h2,fun e=>?_⟩;obtain⟨h3,h4⟩:=hc.fresh b h2;rcases L_new b e with h5|h5
    ·exact h4 h5
    ·omega
   ·simp only at h2;by_cases e:∃j,j < h1.length∧ρ j=k
    ·obtain⟨j,hj,rfl⟩:=e;rw[blk_in j hj]at h2;exact .inr ⟨j,h2⟩
    ·have hk:∀j,j < h1.length→ρ j≠k:=fun j hj e2=>e ⟨j,hj,e2⟩;rw[(blk_off k hk).1,(blk_off k hk).2]at h2;exact .inl ⟨.inr ⟨k,h2⟩,off_L k b hk h2⟩
 ·simp only at hb;by_cases e:∃j,j < h1.length∧ρ j=k
  ·obtain⟨j,hj,rfl⟩:=e;rw[blk_in j hj]at hb;obtain⟨h2,h3⟩:=h.new j b hb;refine⟨?_,h3⟩;rcases h2 with h2|h2
   ·exact L_new b h2
   ·rw[RB]at h2;exact .inr (Yz hc.ext.size h2)
  ·have hk:∀j,j < h1.length→ρ j≠k:=fun j hj e2=>e ⟨j,hj,e2⟩;rw[(blk_off k hk).1,(blk_off k hk).2]at hb;exact⟨(hc.new k b hb).1,Yy (hc.new k b hb).2 ye.size⟩
 ·simp only at hb hb';have ak:∀j k,j < h1.length→(∀j,j < h1.length→ρ j≠k)→c2.block j (aG h1 j)=some b→c.block k (s.heap k)=some b→False:=by
   intro j k hj hk h2 h3;rcases(h.new j b h2).1 with h4|h4
   ·exact off_L k b hk h3 h4
   ·have:=(hc.new k b h3).2;rw[RB]at h4;omega
  by_cases e:∃j,j < h1.length∧ρ j=k
  ·obtain⟨j,hj,rfl⟩:=e;rw[blk_in j hj]at hb;by_cases e':∃j,j < h1.length∧ρ j=k'
   ·obtain⟨j',hj',rfl⟩:=e';rw[blk_in j' hj']at hb';rw[h.apart j j' b hb hb']
   ·have hk:∀j,j < h1.length→ρ j≠k':=fun j hj e2=>e' ⟨j,hj,e2⟩;rw[(blk_off k' hk).1,(blk_off k' hk).2]at hb';exact(ak j k' hj hk hb hb').elim
  ·have hk:∀j,j < h1.length→ρ j≠k:=fun j hj e2=>e ⟨j,hj,e2⟩;rw[(blk_off k hk).1,(blk_off k hk).2]at hb;by_cases e':∃j,j < h1.length∧ρ j=k'
   ·obtain⟨j',hj',rfl⟩:=e';rw[blk_in j' hj']at hb';exact(ak j' k hj' hk hb' hb).elim
   ·have hk':∀j,j < h1.length→ρ j≠k':=fun j hj e2=>e' ⟨j,hj,e2⟩;rw[(blk_off k' hk').1,(blk_off k' hk').2]at hb';exact hc.apart k k' b hb hb'
 ·simp only;by_cases e:∃j,j < h1.length∧ρ j=k
  ·obtain⟨j,hj,rfl⟩:=e;have e2:=Ag inj (h:=s.heap) h1 0 j hj;rw[XG]at e2;rw[e2];exact NN (c:=c2) (c2:=c3) (fun _ _ h=>h) (fun _ h=>h) fwd_b fwd_o (in_bl j hj).1 (in_bl j hj).2 (h.chunk j)
  ·have hk:∀j,j < h1.length→ρ j≠k:=fun j hj e2=>e ⟨j,hj,e2⟩;rw[(blk_off k hk).1];exact(hc.chunk k).keep hle lM (fun b hb=>ye.block b (hc.new k b hb).2 (off_L k b hk hb)) (off_bl k hk).1 (off_bl k hk).2
 ·obtain⟨q1,q2⟩:=hc.lent k hk;by_cases e:∃j,j < h1.length∧ρ j=k
  ·obtain⟨j,hj,rfl⟩:=e;have RC:j < h0.length:=by
    rcases XP j h0.length with h2|h2
    ·exact h2
    ·have:=new_id (j - h0.length);rw[show h0.length+(j - h0.length)=j by omega]at this;omega
   rw[(in_bl j hj).1,(in_bl j hj).2];exact⟨(lent_bl j RC).1.trans q1,fun g u hu=>(lent_bl j RC).2 g u (q2 g u hu)⟩
  ·have hk':∀j,j < h1.length→ρ j≠k:=fun j hj e2=>e ⟨j,hj,e2⟩;rw[(off_bl k hk').1,(off_bl k hk').2];exact⟨q1,q2⟩
theorem RealC.lend {X:Cfg}{s:FS}{a:Act}{w:World}{c:Cx}(hc:RealC X s a w c){h0:List Chunk}{ls:List Nat}{nk:Nat}(hl:ls.length=h0.length)(lm:ls.Nodup)(hlt:∀k∈ls,k < nk)(A4:aH h0.length h0=true)(i9:ax s.heap (eF ls nk) 0 h0):
 ∃X1 c1,(X1.P=X.P∧X1.n=0∧X1.m=h0.length)∧(X1.w0=w∧X1.m=h0.length∧
  (∀b,X1.L b↔∃j,j < h0.length∧c.block (eF ls nk j) (s.heap (eF ls nk j))=some b)∧(∀b,X1.M0 b↔c.M b∧¬X1.L b)∧(∀j,j < h0.length→X1.c0.bl j=c.bl (eF ls nk j)∧X1.c0.ov j=c.ov (eF ls nk j)))∧
  RealC X1 (bQ [] h0) JX w c1∧(∀(ps:List PV) (vs:List Value),an h0.length ps=true→bH c w (iR (eF ls nk) ps) vs→bH c1 w ps vs):=by
 generalize hρ:eF ls nk=ρ at*;have inj:∀i j,ρ i=ρ j→i=j:=fun i j e=>by rw[←hρ]at e;exact Af lm hlt e
 let c1:Cx:={M:=c.M,bl:=fun j=>if j < h0.length then c.bl (ρ j)else none,ov:=fun j g=>if j < h0.length then c.ov (ρ j) g else none}
 have b1:∀j,j < h0.length→c1.bl j=c.bl (ρ j)∧c1.ov j=c.ov (ρ j):=fun j hj=>⟨if_pos hj,funext fun g=>if_pos hj⟩;have lent:∀j,j < h0.length→s.heap (ρ j)=lu ρ (aG h0 j):=fun j hj=>by
  have:=yE i9 (j:=j) hj;rwa [XG]at this
 have po:∀j,j < h0.length→c1.block j (aG h0 j)=c.block (ρ j) (s.heap (ρ j)):=fun j hj=>by
  rw[lent j hj];exact yF (b1 j hj).1 (b1 j hj).2
 have far:∀j b,c1.block j (aG h0 j)=some b→j < h0.length:=fun j b hb=>by
  rcases XP j h0.length with hj|hj
  ·exact hj
  ·rw[md h0 j hj]at hb;cases hb
 have hb:∀j,j < h0.length→∀b,c.bl (ρ j)=some b→c1.bl j=some b:=fun j hj b h=>by rw[(b1 j hj).1];exact h
 have ho:∀j,j < h0.length→∀g u,c.ov (ρ j) g=some u→c1.ov j g=some u:=fun j hj g u h=>by rw[(b1 j hj).2];exact h
 have below_at:∀(l:List Chunk) (j:Nat),aH h0.length l=true→aQ h0.length (aG l j)=true:=fun l j h=>sf h j;refine⟨{P:=X.P,n:=0,m:=h0.length,w0:=w,M0:=fun b=>c.M b∧¬∃j,j < h0.length∧c.block (ρ j) (s.heap (ρ j))=some b,L:=fun b=>∃j,j < h0.length∧c.block (ρ j) (s.heap (ρ j))=some b,c0:=c1},c1,⟨rfl,rfl,rfl⟩,
  ⟨rfl,rfl,fun b=>Iff.rfl,fun b=>Iff.rfl,fun j hj=>b1 j hj⟩,⟨rfl,rfl,ExtL.refl _ _,hc.ginv.keep ⟨XB _,fun _ _ _=>rfl,fun b _ h=>h.elim And.left fun⟨j,_,hj⟩=>(hc.mu b).2 (.inr ⟨_,hj⟩)⟩,fun b hb=>⟨hc.lt hb.1,hb.2⟩,fun b=>?_,fun k b hk=>?_,fun k k' b hk hk'=>?_,fun t=> .any _,fun k=>?_,fun k _=>⟨rfl,fun _ _ h=>h⟩⟩,fun ps vs ly hr=>?_⟩
 ·show c.M b↔_;by_cases e:∃j,j < h0.length∧c.block (ρ j) (s.heap (ρ j))=some b
  ·constructor
   ·intro _;obtain⟨j,hj,h2⟩:=e;exact .inr ⟨j,by rw[show (bQ [] h0).heap j=aG h0 j from rfl,po j hj];exact h2⟩
   ·intro _;obtain⟨j,hj,h2⟩:=e;exact(hc.mu b).2 (.inr ⟨_,h2⟩)
  ·constructor
   ·intro hm;exact .inl ⟨hm,e⟩
   ·rintro (h2|⟨j,h2⟩)
    ·exact h2.1
    ·have hj:=far j b h2;exact absurd ⟨j,hj,by rw[←po j hj];exact h2⟩ e
 ·have hj:=far k b hk;have h2:c.block (ρ k) (s.heap (ρ k))=some b:=by rw[←po k hj];exact hk
  exact⟨.inl ⟨k,hj,h2⟩,(hc.new _ b h2).2⟩
 ·have hj:=far k b hk;have hj':=far k' b hk';have h2:c.block (ρ k) (s.heap (ρ k))=some b:=by rw[←po k hj];exact hk
  have h3:c.block (ρ k') (s.heap (ρ k'))=some b:=by rw[←po k' hj'];exact hk'
  exact inj _ _ (hc.apart _ _ b h2 h3)
 ·rcases XP k h0.length with hk|hk
  ·have a9:=hc.chunk (ρ k);rw[lent k hk]at a9;exact Qy (c:=c) (c1:=c1) (ρ:=ρ) (fun _ _ h=>h) (fun _ h=>h) hb ho (b1 k hk).1 (b1 k hk).2 (below_at h0 k A4) a9
  ·rw[show (bQ [] h0).heap k= .none from md h0 k hk];exact .none (if_neg (by omega)) fun g=>if_neg (by omega)
 ·exact⟨by rw[←hr.1,cX,XD],pP (c:=c) (c1:=c1) (ρ:=ρ) (fun _ _ h=>h) hb ho ps vs ly hr.2⟩
theorem tw {h h':Nat→Chunk}{ρ:Nat→Nat}:∀{l:List Chunk}{i:Nat},ax h ρ i l→(∀j,j < l.length→h' (ρ (i+j))=h (ρ (i+j)))→ax h' ρ i l
 |[],_,_,_=>trivial
 |c::l,i,⟨h1,h2⟩,hs=>⟨(hs 0 (by simp)).trans h1,tw h2 fun j hj=>by
  have:=hs (j+1) (by simpa using hj);rw[show i+1+j=i+(j+1) by omega];exact this⟩
theorem BJ {X:Cfg}{ops:Array Oper}{s:FS}{o:Oper}(hd:∀d,o.dst=some d→d < X.n){fo:Operand}{args:Array Operand}{tys:Array Nat}{g:Nat}{caps margs:List PV}{h0 h1:List Chunk}{r:PV}{ls:List Nat}{nk:Nat}(ho:o.op= .call {callee:= .value fo,args:=args,argTypes:=tys})
 (hf:ev s fo= .clo g caps∨∃cd:List D,ev s fo= .d (.clo g cd)∧caps=cd.map .d) (hM:MSpec X.P g margs h0 r h1) (ha:args.toList.map (ev s)++caps=iR (eF ls nk) margs)
 (hl:ls.length=h0.length) (lm:ls.Nodup) (hlt:∀k∈ls,k < nk) (i9:ax s.heap (eF ls nk) 0 h0) (jH:∀i,h0.length+i < h1.length→s.heap (nk+i)= .none) (Jg:X.m≤nk):
 bJ X ops s o {pv:=ren (eF ls nk) r,eff:=ko (eF ls nk) 0 h1,touch:=(X5 h1.length).map (eF ls nk)}:=by
 refine⟨hd,fun kc h=>?_,fun s' he io a w hr K Q hK=>?_⟩
 ·have h2:=Y8 (f:=(·.1)) h;rw[sg]at h2;simpa using h2
 obtain⟨c,hc⟩:=hr;have dE:∀j,j < h1.length→s'.heap (eF ls nk j)=s.heap (eF ls nk j):=fun j hj=>io _ (Y8 (YR.2 hj));have RD:=tw (h':=s'.heap) i9 fun j hj=>by
  rw[XG];exact dE j (Yy hj hM.le)
 have Tq:∀i,h0.length+i < h1.length→s'.heap (nk+i)= .none:=fun i hi=>by
  have:=kn ls nk i;rw[hl]at this;rw[←this,dE _ hi,this];exact jH i hi
 have sY:∀x,(x=fo∨x∈args)→ev s' x=ev s x:=fun x hx=>zV he x (by
  rw[ho];simp only[Op.operands,Call.operands];rcases hx with rfl|hx
  ·simp
  ·simp[hx])
 obtain⟨fvs,Pu,uq,FH⟩:∃fvs:List Value,a.eval fo= .func (.func g) #[] fvs.toArray∧caps.length=fvs.length∧∀(j:Nat) (p:PV) (x:Value),caps[j]? =some p→fvs[j]? =some x→RepP c w p x:=by
  have h0:=bM hc fo;rw[sY fo (.inl rfl)]at h0;rcases hf with hf|⟨cd,hf,rfl⟩
  ·rw[hf]at h0;generalize a.eval fo=u at h0;cases h0 with
   |clo _ _ vs hl bA=>exact⟨vs,rfl,hl,bA⟩
  ·rw[hf]at h0;generalize a.eval fo=u at h0;have h0:=cp h0;cases h0 with
   |clo _ _ vs hl bA=>
    refine⟨vs,rfl,by simpa using hl,fun j p x hj hx=>?_⟩;simp only[Xz,XO]at hj;obtain⟨y,hy,rfl⟩:=hj;exact .d _ _ (bA j y x hy hx)
 have zL:bH c w (iR (eF ls nk) margs) (args.toList.map a.eval++fvs):=by
  rw[←ha];refine⟨by simp[uq],fun j p x hp hx=>?_⟩;by_cases hlt:j < args.toList.length
  ·rw[X2 (by simpa using hlt)]at hp hx;simp only[Xz,XO]at hp hx;obtain⟨y,hy,rfl⟩:=hp;obtain⟨y',hy',rfl⟩:=hx;rw[hy]at hy';cases hy';have:=bM hc y;rwa [sY y (.inr (by simpa using Xl hy))]at this
  ·rw[XH (by simpa using hlt)]at hp hx;simp only[XD]at hp hx;exact FH _ p x hp hx
 obtain⟨X1,c1,⟨e1,e2,e3⟩,U7,r5,ly⟩:=hc.lend hl lm hlt hM.bh RD;have i8:=hM.run X1 e1 e2 e3 w c1 (args.toList.map a.eval++fvs) r5 (ly _ _ hM.ba zL);have ct:(execOp a.eval o).run X.P w= .ok (.enter g (args.toList.map a.eval++fvs).toArray) w:=by
  have e:(args.toList.map a.eval++fvs).toArray=args.map a.eval++fvs.toArray:=by
   apply _h;simp
  rw[e];simp[execOp,ho,resolve,Pu,Deferred.ofValue,invoke];exact hM.fn _ _
 unfold Oper.wp;rw[ct,Oper.upon_enter];refine i8.mono ?_;rintro e w' ⟨v,c2,rfl,hv,ki⟩;obtain⟨c3,g1,g2⟩:=hc.back U7 hM.le hl lm hlt Tq Jg ki hv;exact hK v w' ⟨c3,g1.put g2 hd⟩
theorem yG:∀{eff:List (Nat × Chunk)}{h:Nat→Chunk},(∀kc∈eff,h kc.1=kc.2)→cH eff h=h
 |[],_,_=>rfl
 |(k,c)::l,h,hs=>by
  funext k';simp only[cH];split
  ·rename_i e;subst e;exact(hs (k',c) (F' ..)).symm
  ·rw[yG fun kc hk=>hs kc (by simp[hk])]
theorem NO {X:Cfg}{ops:Array Oper}{s:FS}{o:Oper}{r:Res}(h:bJ X ops s o r)(he:∀kc∈r.eff,s.heap kc.1=kc.2):bJ X ops s o {r with eff:=[]}:=by
 refine⟨h.1,by simp,fun s' h1 h2 a w hr K Q hK=>h.2.2 s' h1 h2 a w hr K Q fun v w' hr'=>hK v w' ?_⟩;have:cH r.eff s'.heap=s'.heap:=yG fun kc hk=>by rw[h2 _ (h.2.1 kc hk)];exact he kc hk
 have e2:s'.app o.dst r=s'.app o.dst {r with eff:=[]}:=by
  unfold FS.app;rw[this];rfl
 rw[←e2];exact hr'
theorem yH {h:Nat→Chunk}{ρ:Nat→Nat}:∀{l:List Chunk}{i:Nat},ax h ρ i l→∀kc∈ko ρ i l,h kc.1=kc.2
 |[],_,_,kc,hk=>by simp[ko]at hk
 |c::l,i,⟨h1,h2⟩,kc,hk=>by
  simp only[ko,X7]at hk;rcases hk with rfl|hk
  ·exact h1
  ·exact yH h2 kc hk
theorem JY {X:Cfg}{ops:Array Oper}{s:FS}{o:Oper}(hd:∀d,o.dst=some d→d < X.n){fo:Operand}{args:Array Operand}{tys:Array Nat}{g:Nat}{caps margs:List PV}{h0:List Chunk}{r:PV}{ls:List Nat}{nk:Nat}(ho:o.op= .call {callee:= .value fo,args:=args,argTypes:=tys})
 (hf:ev s fo= .clo g caps∨∃cd:List D,ev s fo= .d (.clo g cd)∧caps=cd.map .d) (hM:MSpec X.P g margs h0 r h0) (ha:args.toList.map (ev s)++caps=iR (eF ls nk) margs)
 (hl:ls.length=h0.length) (lm:ls.Nodup) (hlt:∀k∈ls,k < nk) (i9:ax s.heap (eF ls nk) 0 h0) (Jg:X.m≤nk):
 bJ X ops s o {pv:=ren (eF ls nk) r,eff:=[],touch:=(X5 h0.length).map (eF ls nk)}:=
 NO (BJ hd ho hf hM ha hl lm hlt i9 (fun i hi=>by omega) Jg) (yH i9)
theorem n9 (s:Bool):∀(l:List (List Int × Int)) (j i:Nat),(bv s l j)[i]? =(l[i]?).map fun kv=>{key:=jd s kv.1,val:= .int .i64 kv.2,born:=j+i}
 |[],j,i=>by simp[bv]
 |(k,v)::l,j,0=>by simp[bv]
 |(k,v)::l,j,i+1=>by
  simp only[bv,Yx];rw[n9 s l (j+1) i];simp only[show j+1+i=j+(i+1) by omega]
theorem kq (s:Bool):∀(l:List (List Int × Int)) (j:Nat),∀x∈bv s l j,j≤x.born∧x.born < j+l.length
 |[],j,x,hx=>by simp[bv]at hx
 |(k,v)::l,j,x,hx=>by
  simp only[bv,X7]at hx;rcases hx with rfl|hx
  ·simp
  ·have:=kq s l (j+1) x hx;simp only[XA];omega
theorem pB (s:Bool):∀(l:List (List Int × Int)) (j:Nat),((bv s l j).map (·.born)).Nodup
 |[],j=>by simp[bv]
 |(k,v)::l,j=>by
  simp only[bv,Xm,List.nodup_cons,XQ,not_exists,not_and];exact⟨fun x hx e=>by have:=(kq s l (j+1) x hx).1;omega,pB s l (j+1)⟩
theorem RealC.range {X:Cfg}{s:FS}{a:Act}{w:World}{c:Cx}(h:RealC X s a w c){k nk n b:Nat}{sB:Bool}{ents:List (List Int × Int)}(hk:s.heap k= .mp n sB ents)(Tr:s.heap nk= .none)(Jg:¬nk < X.m)(hb:c.bl k=some b)(hh:w.heap[b]? =some (.map (bv sB ents 0).toArray ents.length)):
 ∃c',RealC X {s with heap:=cH [(nk,.it n sB ents []),(k,.gone)] s.heap} a (w.alloc (.mapIter (some b) ents.length #[] ents.length)) c'∧RepP c' (w.alloc (.mapIter (some b) ents.length #[] ents.length)) (.ptr nk 0) (.pointer (some ⟨w.heap.size,0,none⟩)):=by
 have h1:=h.freeze [k];have bB:nk≠k:=fun e=>by rw[e,hk]at Tr;cases Tr
 have Ts:cH ([k].map fun k=>(k,Chunk.gone)) s.heap nk= .none:=by
  simp only[Xm,Xv,cH,if_neg bB];exact Tr
 have a9:=h1.chunk nk;simp only at a9;rw[Ts]at a9;have hlt:b < w.heap.size:=(Ys.1 hh).1;cases a9 with
 |none yd Td=>
  have hx:=jp w (.mapIter (some b) ents.length #[] ents.length);have co:(fun k'=>if k'=nk then some w.heap.size else c.bl k') nk=some w.heap.size:=if_pos rfl;refine⟨{M:=fun b=>lB c s.heap [k] b∨b=w.heap.size,bl:=fun k'=>if k'=nk then some w.heap.size else c.bl k',ov:=c.ov},?_,.ptr nk 0 _ co⟩;refine h1.new_chunk (ch:= .it n sB ents []) Ts Jg hx ⟨fun k' b hb=>?_,fun _ _ _ h=>h⟩ (fun k' bB=>if_neg bB) (fun _ _=>rfl) (fun b=>?_) (fun b hb=>?_) (fun lM=>?_)
  ·have:k'≠nk:=fun e=>by subst e;rw[yd]at hb;cases hb
   show (if k'=nk then some w.heap.size else c.bl k')=some b;rw[if_neg this];exact hb
  ·simp only[Cx.block,if_true,XX.injEq];exact⟨fun h=>h.imp id Eq.symm,fun h=>h.imp id Eq.symm⟩
  ·simp only[Cx.block,if_true,XX.injEq]at hb;rw[size_alloc];omega
  ·refine .it n sB ents [] w.heap.size b co (jM w _) (fun hM=>?_) (by rw[hx.block b hlt];exact hh);rcases hM with hM|hM
   ·exact hM.2 k (by simp) (by rw[hk];exact hb)
   ·omega
section
variable {X:Cfg}{ops:Array Oper}{s:FS}{o:Oper}(hd:∀d,o.dst=some d→d < X.n)
include hd
theorem JZ {t k nk n:Nat}{sB:Bool}{m:Operand}{ents:List (List Int × Int)}(ho:o.op= .range t m)(hm:MapOK X.P t n sB)(Tl:ev s m= .mref k)(hk:s.heap k= .mp n sB ents)(Tr:s.heap nk= .none)(t5:¬nk < X.m):
 bJ X ops s o {pv:= .ptr nk 0,eff:=[(nk,.it n sB ents []),(k,.gone)],touch:=[k,nk]}:=
 d6 hd (fun kc h=>by simp at h;rcases h with rfl|rfl<;>simp) fun s' he io a w c hc=>by
  have e1:=bM hc m;rw[he m (by simp[ho,Op.operands]),Tl]at e1;have hk':s'.heap k= .mp n sB ents:=by rw[io k (by simp)];exact hk
  have a9:=hc.chunk k;rw[hk']at a9;generalize hu:a.eval m=u at e1;cases e1 with
  |mref _ b hb=>
   cases a9 with
   |mp _ _ _ b' hb' hh hn=>
    rw[hb]at hb';cases hb';obtain⟨c',h1,h2⟩:=hc.range hk' (by rw[io nk (by simp)];exact Tr) t5 hb hh;obtain⟨kt,et,i,hut,-⟩:=hm;refine⟨_,_,_,?_,.inl rfl,c',h1,h2⟩;simp only[execOp,ho,hu];rw[Sem.run_bind,run_range_map w t kt et b _ _ hut hh];rfl
theorem J0 {k n i:Nat}{sB:Bool}{x:Operand}{ents:List (List Int × Int)}{seen:List Nat}{kv:List Int × Int}(ho:o.op= .entry x)(hx:ev s x= .ptr k 0)(hk:s.heap k= .it n sB ents seen)(hl:seen.getLast? =some i)(hi:ents[i]? =some kv):
 bJ X ops s o {pv:= .tup [.any,.d (.v (.int .i64 kv.2))],touch:=[k]}:=
 aM hd fun s' he io a w c hc=>by
  have e1:=bM hc x;rw[he x (by simp[ho,Op.operands]),hx]at e1;have hk':s'.heap k= .it n sB ents seen:=by rw[io k (by simp)];exact hk
  have a9:=hc.chunk k;rw[hk']at a9;generalize hu:a.eval x=u at e1;cases e1 with
  |ptr _ _ b hb=>
   cases a9 with
   |it _ _ _ _ b' bm hb' hh hM hm=>
    rw[hb]at hb';cases hb';obtain⟨pre,rfl⟩:∃pre,seen=pre++[i]:=by
     rw[List.getLast?_eq_some_iff]at hl;exact hl
    have hg:=n9 sB ents 0 i;rw[hi]at hg;have hh2:w.heap[b]? =some (.mapIter (some bm) ents.length (pre.toArray.push i) ents.length):=by rw[hh];simp
    have ct:=run_entry_at (P:=X.P) w b bm ents.length pre.toArray (bv sB ents 0).toArray ents.length {key:=jd sB kv.1,val:= .int .i64 kv.2,born:=i} hh2 hm (by
     have:=Xl hg;simpa using this) (by simpa using pB sB ents 0)
    refine⟨.tuple #[jd sB kv.1,.int .i64 kv.2],?_,.tup _ [jd sB kv.1,.int .i64 kv.2] rfl ?_⟩
    ·simp only[execOp,ho,hu];rw[Sem.run_bind,ct];rfl
    ·intro j d y h1 h2;match j with
     |0=>simp at h1 h2;subst h1;exact .any _
     |1=>simp at h1 h2;subst h1;subst h2;exact .d _ _ (.v _)
     |j+2=>simp at h1
end
theorem NP {a b:ByteArray}:(a.toList==b.toList)=decide (a=b):=by
 rw[ByteArray.toList_eq,ByteArray.toList_eq,Yi,beq_iff_eq,decide_eq_true_iff];exact⟨fun h=>ByteArray.ext (_h h),fun h=>by rw[h]⟩
def Ah (s:ByteArray)(i:Nat):Int:=((s.data.toList.getD i 0).toNat:Int)
theorem EC {s:ByteArray}{i:Nat}(h:i < s.size):s[i]? =some (s.data.toList.getD i 0):=by
 have h2:i < s.data.size:=h;rw[getElem?_pos s i h];congr 1;rw[XK,X6,YP h2];rfl
def oa:List (List D)→Option (List Int)
 |[]=>some []
 |[.v (.int .u8 n)]::l=>(oa l).map (n:: ·)
 |_=>none
theorem yI:∀{rows:List (List D)}{xs:List Int},oa rows=some xs→rows=xs.map fun n=>[.v (.int .u8 n)]
 |[],xs,h=>by simp[oa]at h;subst h;rfl
 |r::rows,xs,h=>by
  unfold oa at h;split at h
  ·rename_i e;cases e
  ·rename_i n l e;cases e;cases hb:oa rows with
   |none=>rw[hb]at h;cases h
   |some ys=>
    rw[hb]at h;cases h;rw[yI hb];rfl
  ·cases h
section
variable {X:Cfg}{ops:Array Oper}{s:FS}{o:Oper}(hd:∀d,o.dst=some d→d < X.n)
include hd
theorem Hu {t t':Nat}{x y:Operand}{a b:ByteArray}(ho:o.op= .binOp .add t x y t')(hx:ev s x= .d (.v (.string a)))(hy:ev s y= .d (.v (.string b)))(hl:a.size+b.size≤9223372036854775807):
 bJ X ops s o {pv:= .d (.v (.string (a++b)))}:=
 aM hd fun s' he _ ac w c hc=>by
  have h1:=df hc ((he x (by simp[ho,Op.operands])).trans hx);have h2:=df hc ((he y (by simp[ho,Op.operands])).trans hy);have hr:=run_string_add_sum (P:=X.P) w a b (by omega);refine⟨.string (a++b),?_,.d _ _ (.v _)⟩;simp[execOp,ho,h1,h2,eqGuard,binOp,hr]
theorem BK {op:BinOp}{t t':Nat}{x y:Operand}{a b:ByteArray}{r:Bool}(ho:o.op= .binOp op t x y t')(hx:ev s x= .d (.v (.string a)))(hy:ev s y= .d (.v (.string b)))(hr:(op= .eql∧r=decide (a=b))∨(op= .neq∧r=!decide (a=b))):
 bJ X ops s o {pv:= .d (.v (.bool r))}:=
 aM hd fun s' he _ ac w c hc=>by
  have h1:=df hc ((he x (by simp[ho,Op.operands])).trans hx);have h2:=df hc ((he y (by simp[ho,Op.operands])).trans hy);refine⟨.bool r,?_,.d _ _ (.v _)⟩;rcases hr with⟨rfl,rfl⟩|⟨rfl,rfl⟩<;>simp[execOp,ho,h1,h2,eqGuard,binOp,Op.stringOp,NP]
theorem Hv {t:Nat}{x:Operand}{a:ByteArray}{ti:TI}(ho:o.op= .call {callee:= .builtin .len,args:=#[x],argTypes:=#[t]})(ht:aU X.P t=some ti)(hk:ti.kind=2)(hx:ev s x= .d (.v (.string a))):
 bJ X ops s o {pv:= .d (.v (.int .i64 a.size))}:=
 aM hd fun s' he _ ac w c hc=>by
  have h1:=df hc ((he x (by simp[ho,Op.operands,Call.operands])).trans hx);obtain⟨i,d,z,tk⟩:=iq ht;have kh:d= .string:=by
   have:=tk.kind;rw[hk]at this;cases d<;>simp[px]at this;rfl
  subst kh;refine⟨.int .i64 a.size,?_,.d _ _ (.v _)⟩;simp[execOp,ho,h1,resolve,invoke,builtin,Builtin.len_,run_underlying tk.und,goInt]
theorem BL {t:Nat}{x y:Operand}{a:ByteArray}{k:IntKind}{n:Int}{ti:TI}(ho:o.op= .index t x y)(ht:aU X.P t=some ti)(hk:ti.kind=2)(hx:ev s x= .d (.v (.string a)))(hy:ev s y= .d (.v (.int k n)))(hn:0≤n)(hlt:n.toNat < a.size):
 bJ X ops s o {pv:= .d (.v (.int .u8 (Ah a n.toNat)))}:=
 aM hd fun s' he _ ac w c hc=>by
  have h1:=df hc ((he x (by simp[ho,Op.operands])).trans hx);have h2:=df hc ((he y (by simp[ho,Op.operands])).trans hy);obtain⟨i,d,z,tk⟩:=iq ht;have kh:d= .string:=by
   have:=tk.kind;rw[hk]at this;cases d<;>simp[px]at this;rfl
  subst kh;refine⟨.int .u8 (Ah a n.toNat),?_,.d _ _ (.v _)⟩;simp[execOp,ho,h1,h2,Instr.index,asIntOf,run_underlying tk.und,hn,EC hlt,Ah]
theorem BM {t:Nat}{x:Operand}{lo hi:Option Operand}{a:ByteArray}{ti:TI}{l h:Nat}(ho:o.op= .slice t x lo hi none)(ht:aU X.P t=some ti)(hk:ti.kind=2)
 (hx:ev s x= .d (.v (.string a))) (jb:FZ (lo.map (ev s))=some l) (j7:F1 a.size (hi.map (ev s))=some h) (h1:l≤h) (h2:h≤a.size):bJ X ops s o {pv:= .d (.v (.string (a.extract l h)))}:=
 aM hd fun s' he _ ac w c hc=>by
  have e1:=df hc ((he x (by simp[ho,Op.operands])).trans hx);rw[←uU (s:=s) (s':=s') (fun y hy=>he y (by simp[ho,Op.operands,hy]))]at jb j7;have b1:=nX hc jb;have b2:=nY hc j7;obtain⟨i,d,z,tk⟩:=iq ht;have kh:d= .string:=by
   have:=tk.kind;rw[hk]at this;cases d<;>simp[px]at this;rfl
  subst kh;refine⟨.string (a.extract l h),?_,.d _ _ (.v _)⟩;have g1:(0:Int)≤(l:Int):=by omega
  have g2:(0:Int)≤(h:Int):=by omega
  have g3:(l:Int)≤(h:Int):=by omega
  have g4:(h:Int)≤(a.size:Int):=by omega
  simp only[execOp,ho,e1,Zg];generalize lo.map ac.eval=lo' at b1;generalize hi.map ac.eval=hi' at b2;rcases b1 with⟨rfl,rfl⟩|⟨k,rfl⟩<;>rcases b2 with⟨rfl,rfl⟩|⟨k',rfl⟩<;>
   simp[Instr.sliceAt,Instr.slice,run_underlying tk.und,Instr.sliceBounds,Instr.sliceBound,asIntOf,g1,g2,g3,g4,h1,h2,_g.2 h1,_g.2 h2]
theorem BN {src dst e:Nat}{x:Operand}{rows:List (List D)}{xs:List Int}{ts td te:TI}(ho:o.op= .convert src dst x)(hs:aU X.P src=some ts)(ht:aU X.P dst=some td)(he':ts.elem=some e)(gR:aU X.P e=some te)(hi:te.int=some .u8)(hk:td.kind=2)
 (hx:ev s x= .d (.sl 1 rows)) (hb:oa rows=some xs):bJ X ops s o {pv:= .d (.v (.string (strOfNums xs)))}:=
 aM hd fun s' he _ ac w c hc=>by
  have e1:=bM hc x;rw[he x (by simp[ho,Op.operands]),hx]at e1;generalize hu:ac.eval x=u at e1;have e1:=cp e1;obtain⟨i,d,z,tk⟩:=iq hs;obtain⟨i2,d2,z2,tk2⟩:=iq ht;obtain⟨i3,d3,z3,tk3⟩:=iq gR;have DT:d= .slice e:=by
   have:=tk.elem;rw[he']at this;cases d<;>simp[gq]at this;rw[this]
  have zM:d2= .string:=by
   have:=tk2.kind;rw[hk]at this;cases d2<;>simp[px]at this;rfl
  have Px:d3= .int .u8:=by
   have:=tk3.int;rw[hi]at this;cases d3<;>simp[NG]at this;rw[this]
  subst DT zM Px;have MI:=yI hb;refine⟨.string (strOfNums xs),?_,.d _ _ (.v _)⟩;cases e1 with
  |nil _ ao cap hm=>
   have:xs=[]:=by cases xs with|nil=>rfl|cons a l=>simp at MI
   subst this;simp only[execOp,ho,hu];rw[Sem.run_bind,run_convert_bytes_string w src dst e ao 0 cap tk.und tk3.und tk2.und];cases ao with
   |none=>rfl
   |some a=>
    have hl:(loadCells a 0).run X.P w= .ok (([]:List Int).map (Value.int .u8)).toArray w:=by simp[loadCells,loadCellsFrom]
    rw[run_bytesToString w a 0 cap [] hl];rfl
  |sl _ _ b off cap f hM tZ fV hm hr h1' dC bA=>
   have bR:rows.length=xs.length:=by rw[MI,XD]
   have hce:∀i,i < rows.length→w.cell? ⟨b,off+i,none⟩=some (.int .u8 (xs.getD i 0)):=fun i hi=>by
    have h0:=dC i 0 hi (by omega);rw[X',XW]at h0;rw[h0];obtain⟨n,hn⟩:∃n,xs[i]? =some n:=⟨_,Xk (by omega)⟩;have h2:=bA i 0 [.v (.int .u8 n)] (.v (.int .u8 n)) (by rw[MI,Xz,hn];rfl) rfl;rw[XK,hn,YI];generalize f i 0=fv at h2;cases h2;rfl
   have hr':=run_convert_bytes_arg (P:=X.P) w src e tk.und tk3.und b off rows.length cap xs bR.symm hce dst tk2.und;simp only[execOp,ho,hu];rw[Sem.run_bind,hr'];rfl
theorem ED {t e n sz k off:Nat}{x y:Operand}{kd:IntKind}{i:Int}{ti te:TI}(ho:o.op= .indexAddr t x y)(ht:aU X.P t=some ti)(ha:ti.arr=some (n,e))(gR:aU X.P e=some te)(cT:te.size=sz)
 (hx:ev s x= .ptr k off) (hy:ev s y= .d (.v (.int kd i))) (hi:0≤i) (hlt:i.toNat < n):bJ X ops s o {pv:= .ptr k (off+i.toNat*sz)}:=
 aM hd fun s' he _ ac w c hc=>by
  have e1:=bM hc x;rw[he x (by simp[ho,Op.operands]),hx]at e1;have e2:=df hc ((he y (by simp[ho,Op.operands])).trans hy);generalize hu:ac.eval x=u at e1;obtain⟨ii,d,z,tk⟩:=iq ht;obtain⟨ie,de,ze,tke⟩:=iq gR;have kh:d= .array n e:=by
   have:=tk.arr;rw[ha]at this;cases d<;>simp[JK]at this;rw[this.1,this.2]
  subst kh;cases e1 with
  |ptr _ _ b hb=>
   have rN:0≤i∧i < (n:Int):=⟨hi,by omega⟩;refine⟨.pointer (some ⟨b,off+i.toNat*sz,none⟩),?_,.ptr k _ b hb⟩;simp[execOp,ho,hu,e2,Instr.indexAt,Instr.sureAddr,asIntOf,run_underlying tk.und,rN,sizeOf,typeInfo,tke.info,tke.size,cT,Addr.add_lit]
theorem BO {t e n:Nat}{x y:Operand}{kd:IntKind}{i:Int}{ti te:TI}{ds:List D}{q:D}(ho:o.op= .index t x y)(ht:aU X.P t=some ti)(ha:ti.arr=some (n,e))(gR:aU X.P e=some te)(cT:te.size=1)(pg:te.agg=false)
 (hx:ev s x= .d (.agg ds)) (hy:ev s y= .d (.v (.int kd i))) (hi:0≤i) (hlt:i.toNat < n) (hq:ds[i.toNat]? =some q):bJ X ops s o {pv:= .d q}:=
 aM hd fun s' he _ ac w c hc=>by
  have e1:=bM hc x;rw[he x (by simp[ho,Op.operands]),hx]at e1;have e2:=df hc ((he y (by simp[ho,Op.operands])).trans hy);generalize hu:ac.eval x=u at e1;obtain⟨ii,d,z,tk⟩:=iq ht;obtain⟨ie,de,ze,tke⟩:=iq gR;have kh:d= .array n e:=by
   have:=tk.arr;rw[ha]at this;cases d<;>simp[JK]at this;rw[this.1,this.2]
  subst kh;have e1:=cp e1;cases e1 with
  |agg _ vs hl h1 bA=>
   have rN:0≤i∧i < (n:Int):=⟨hi,by omega⟩;have oP:i.toNat < vs.length:=by rw[←hl];exact(Xn.1 hq).1
   have Jc:(isAgg e).run X.P w= .ok false w:=by
    unfold isAgg;rw[Sem.run_bind,run_underlying tke.und w];have:=tke.agg;rw[pg]at this;cases de<;>simp[NF]at this ⊢
   refine⟨vs[i.toNat],?_,.d _ _ (bA i.toNat q _ hq (Xk oP))⟩;simp[execOp,ho,hu,e2,Instr.index,asIntOf,run_underlying tk.und,rN,sizeOf,typeInfo,tke.info,tke.size,cT,part,Jc,Xk oP]
theorem BP {t n e:Nat}{parts:Array (Nat × Operand)}{ti te:TI}{pd:List (Nat × List PV)}{out:List PV}(ho:o.op= .build t parts)(ht:aU X.P t=some ti)(ha:ti.arr=some (n,e))(gR:aU X.P e=some te)
 (hp:pd.length=parts.size) (hq:∀(j:Nat) (i:Nat) (x:Operand),parts[j]? =some (i,x)→pd[j]? =some (i,cV (ev s x))∧yy (ev s x)=true) (hf:pz ((X5 n).map fun i=>(i*te.size,te.size)) (ti.zero.map fun x=> .d (.v x)) pd=some out):
 bJ X ops s o {pv:=r8 out}:=by
 obtain⟨ii,d,z,tk⟩:=iq ht;obtain⟨ie,de,ze,tke⟩:=iq gR;have kh:d= .array n e:=by
  have:=tk.arr;rw[ha]at this;cases d<;>simp[JK]at this;rw[this.1,this.2]
 subst kh;refine yz hd ho ht (place:=fun i=>some (i*te.size,te.size)) (fun i p h=>?_) (fun ps=>?_) hp hq hf
 ·rw[Xz,XO]at h;obtain⟨m,hm,rfl⟩:=h;have:=(Xn.1 hm).2;simp at this;rw[this]
 ·unfold Program.built;have:z.cells=ti.zero.toArray:=by rw[←tk.zcells]
  simp only[tk.info,tk.und,tk.zero,tke.info,tke.size,this]
omit hd in
theorem Ai {P:Program}{t:Nat}{ms:Array (String × TypeId)}(h:P.underlying t=some (.interface ms))(d:D)(M:Nat→Prop)(w:World)(v:Value)(hv:RepD M w d v)(hn:d= .nei∨d= .v .nilIface):
 (Op.equal t v .nilIface).run P w= .ok (match d with| .nei=>false|_=>true) w:=by
 unfold Op.equal;rcases hn with rfl|rfl
 ·cases hv;show (Op.equalIn (9999+1) t _ .nilIface).run P w=_;rw[Op.equalIn,Sem.run_bind,run_underlying h];rfl
 ·cases hv;show (Op.equalIn (9999+1) t .nilIface .nilIface).run P w=_;rw[Op.equalIn,Sem.run_bind,run_underlying h];rfl
theorem qI {op:BinOp}{t t':Nat}{x:Operand}{d:D}{ti:TI}{r:Bool}(ho:o.op= .binOp op t x (.const .nilIface) t')(ht:aU X.P t=some ti)(hk:ti.kind=5)(hx:ev s x= .d d)(hn:d= .nei∨d= .v .nilIface)
 (hr:(op= .eql∧r=(match d with| .nei=>false|_=>true))∨(op= .neq∧r=!(match d with| .nei=>false|_=>true))):bJ X ops s o {pv:= .d (.v (.bool r))}:=
 aM hd fun s' he _ ac w c hc=>by
  have e1:=bM hc x;rw[he x (by simp[ho,Op.operands]),hx]at e1;generalize hu:ac.eval x=u at e1;have e1:=cp e1;obtain⟨i,dd,z,tk⟩:=iq ht;have kh:∃ms,dd= .interface ms:=by
   have:=tk.kind;rw[hk]at this;cases dd<;>simp[px]at this;exact⟨_,rfl⟩
  obtain⟨ms,rfl⟩:=kh;have hq:=Ai tk.und d _ w u e1 hn;have hg:eqGuard op t x (.const .nilIface) u .nilIface=pure ():=by
   rcases hn with rfl|rfl
   ·cases e1;rcases hr with⟨rfl,-⟩|⟨rfl,-⟩<;>rfl
   ·cases e1;exact eqGuard_nil_constR _ _ _ _
  refine⟨.bool r,?_,.d _ _ (.v _)⟩;have hb:(binOp op t u .nilIface).run X.P w= .ok (.bool r) w:=by
   rcases hn with rfl|rfl
   ·cases e1;rcases hr with⟨rfl,rfl⟩|⟨rfl,rfl⟩<;>simp[binOp,hq]
   ·cases e1;rcases hr with⟨rfl,rfl⟩|⟨rfl,rfl⟩<;>simp[binOp,hq]
  have i7:ac.eval (.const .nilIface)= .nilIface:=rfl;simp[execOp,ho,hu,i7,hg,hb]
theorem BQ {op:BinOp}{t t':Nat}{x y:Operand}{k k':IntKind}{m n:Int}{r:Value}(ho:o.op= .binOp op t x y t')(lR:op= .shl∨op= .shr)(hx:ev s x= .d (.v (.int k m)))(hy:ev s y= .d (.v (.int k' n)))(hr:zW op k m n=some r):
 bJ X ops s o {pv:= .d (.v r)}:=
 aM hd fun s' he _ a w c hc=>by
  have h1:=df hc ((he x (by simp[ho,Op.operands])).trans hx);have h2:=df hc ((he y (by simp[ho,Op.operands])).trans hy);refine⟨r,?_,.d _ _ (.v _)⟩;rcases lR with rfl|rfl
  ·simp[zW]at hr;obtain⟨h0,rfl⟩:=hr;simp[execOp,ho,h1,h2,eqGuard,binOp,Op.shift,Int.not_lt.2 h0]
  ·simp[zW]at hr;obtain⟨h0,rfl⟩:=hr;simp[execOp,ho,h1,h2,eqGuard,binOp,Op.shift,Int.not_lt.2 h0]
end
inductive SR where
 |no
 |res (p:PV) (eff:List (Nat × Chunk)) (touch:List Nat) (side:Prop)
 |call (g:Nat) (ps:List PV)
def qJ (c a b:PV):SR:=
 match c with
 | .d (.v (.bool t))=>
  match a,b with
  | .d (.v (.bool p)),.d (.v (.bool q))=> .res (.d (.v (.bool (bif t then p else q)))) [] [] True
  |_,_=> .res (if t then a else b) [] [] True
 |_=> .no
def SE (op:UnOp)(x:PV):SR:=
 match op,x with
 | .not,.d (.v (.bool b))=> .res (.d (.v (.bool (!b)))) [] [] True
 | .neg,.d (.v (.int k n))=> .res (.d (.v (.int k (k.wrap (0 - n))))) [] [] True
 |_,_=> .no
def J1 (x:PV):SR:=
 match x with
 | .ptr k off=> .res (.ptr k off) [] [] True
 | .rp k g sz i j=> .res (.rp k g sz i j) [] [] True
 | .d (.ept cs)=> .res (.d (.ept cs)) [] [] True
 |_=> .no
def J2 (ti:Option TI)(q:Option Nat)(op:BinOp)(x y:PV):SR:=
 match x,y with
 | .d (.v (.int k m)),.d (.v (.int k' n))=>
  if k=k' then
   match op with
   | .quo=> .res (.d (.v (.int k (k.wrap (m.tdiv n))))) [] [] (n≠0)
   | .rem=> .res (.d (.v (.int k (m.tmod n)))) [] [] (n≠0)
   |_=>match zW op k m n with
    |some r=> .res (.d (.v r)) [] [] True
    |none=> .no
  else
   match op with
   | .shl=>match zW .shl k m n with|some r=> .res (.d (.v r)) [] [] True|none=> .no
   | .shr=>match zW .shr k m n with|some r=> .res (.d (.v r)) [] [] True|none=> .no
   |_=> .no
 | .d (.v (.string m)),.d (.v (.string n))=>
  match op with
  | .add=> .res (.d (.v (.string (m++n)))) [] [] (m.size+n.size≤9223372036854775807)
  | .eql=> .res (.d (.v (.bool (decide (m=n))))) [] [] True
  | .neq=> .res (.d (.v (.bool !decide (m=n)))) [] [] True
  |_=> .no
 | .d (.v (.bool m)),.d (.v (.bool n))=>
  match ti,op with
  |some ti,.eql=> .res (.d (.v (.bool (m==n)))) [] [] (ti.kind=1)
  |some ti,.neq=> .res (.d (.v (.bool (m !=n)))) [] [] (ti.kind=1)
  |_,_=> .no
 | .d (.v (.pointer none)),.d (.v (.pointer none))=>
  match ti,op with
  |some ti,.eql=> .res (.d (.v (.bool true))) [] [] (ti.kind=3)
  |some ti,.neq=> .res (.d (.v (.bool false))) [] [] (ti.kind=3)
  |_,_=> .no
 | .ptr _ _,.d (.v (.pointer none))=>
  match ti,op with
  |some ti,.eql=> .res (.d (.v (.bool false))) [] [] (ti.kind=3)
  |some ti,.neq=> .res (.d (.v (.bool true))) [] [] (ti.kind=3)
  |_,_=> .no
 | .rp _ _ _ _ _,.d (.v (.pointer none))=>
  match ti,op with
  |some ti,.eql=> .res (.d (.v (.bool false))) [] [] (ti.kind=3)
  |some ti,.neq=> .res (.d (.v (.bool true))) [] [] (ti.kind=3)
  |_,_=> .no
 | .d (.ept _),.d (.v (.pointer none))=>
  match ti,op with
  |some ti,.eql=> .res (.d (.v (.bool false))) [] [] (ti.kind=3)
  |some ti,.neq=> .res (.d (.v (.bool true))) [] [] (ti.kind=3)
  |_,_=> .no
 | .d (.sl _ (_::_)),.d (.v (.slice none _ _))=>
  match ti,op with
  |some ti,.eql=> .res (.d (.v (.bool false))) [] [] (ti.elem.isSome=true)
  |some ti,.neq=> .res (.d (.v (.bool true))) [] [] (ti.elem.isSome=true)
  |_,_=> .no
 | .d (.v (.slice ao _ _)),.d (.v (.slice none _ _))=>
  match ti,op with
  |some ti,.eql=> .res (.d (.v (.bool ao.isNone))) [] [] (ti.elem.isSome=true)
  |some ti,.neq=> .res (.d (.v (.bool !ao.isNone))) [] [] (ti.elem.isSome=true)
  |_,_=> .no
 | .d (.agg ds),.d (.agg es)=>
  match q,py ds,py es with
  |some n,some xs,some ys=>
   match op with
   | .eql=> .res (.d (.v (.bool (xs==ys)))) [] [] (xs.length=n∧ys.length=n)
   | .neq=> .res (.d (.v (.bool (xs !=ys)))) [] [] (xs.length=n∧ys.length=n)
   |_=> .no
  |_,_,_=> .no
 |_,_=> .no
def J3 (ti:Option TI)(op:BinOp)(x:PV):SR:=
 match ti,op,x with
 |some ti,.eql,.d .nei=> .res (.d (.v (.bool false))) [] [] (ti.kind=5)
 |some ti,.neq,.d .nei=> .res (.d (.v (.bool true))) [] [] (ti.kind=5)
 |some ti,.eql,.d (.v .nilIface)=> .res (.d (.v (.bool true))) [] [] (ti.kind=5)
 |some ti,.neq,.d (.v .nilIface)=> .res (.d (.v (.bool false))) [] [] (ti.kind=5)
 |_,_,_=> .no
def u4 (ti:Option TI)(f:Nat)(x:PV):SR:=
 match ti with
 |some ti=>
  match ti.fields[f]? with
  |some (off,sz)=>
   match x with
   | .d (.ept ds)=> .res (.d (.ept (ds.drop off))) [] [] (sz≠0)
   | .ptr k o'=> .res (.ptr k (o'+off)) [] [] (sz≠0)
   | .rp k g sz' i j=> .res (.rp k g sz' i (j+off)) [] [] (sz≠0)
   |_=> .no
  |none=> .no
 |none=> .no
def BR (ti:Option TI)(h:Nat→Chunk)(x:PV):SR:=
 match ti with
 |some ti=>
  match x with
  | .d (.ept ds)=>
   if ti.agg then .res (.d (.agg (ds.take ti.size))) [] [] (ti.size≤ds.length)
   else match ds with
    |d::_=> .res (.d d) [] [] (ti.size=1)
    |[]=> .no
  | .ptr k off=>
   match h k with
   | .box _ cells=>
    if ti.agg then .res (r8 ((cells.drop off).take ti.size)) [] [k] (off+ti.size≤cells.length)
    else match cells.drop off with
     |p::_=> .res p [] [k] (ti.size=1)
     |[]=> .no
   |_=> .no
  | .rp k g sz i j=>
   match h k with
   | .row _ sz' g' rows=>
    match rows[i]? with
    |some row=>
     if ti.agg then .res (r8 ((row.drop j).take ti.size)) [] [k] (g=g'∧sz=sz'∧j+ti.size≤sz)
     else match row.drop j with
      |p::_=> .res p [] [k] (g=g'∧sz=sz'∧ti.size=1∧j+1≤sz)
      |[]=> .no
    |none=> .no
   |_=> .no
  |_=> .no
 |none=> .no
def u5 (T:Nat→Option TI)(ti:Option TI)(h:Nat→Chunk)(x y:PV):SR:=
 match ti with
 |some ti=>
  match ti.elem with
  |some e=>
   match T e with
   |some te=>
    match y with
    | .d (.v (.int _ n))=>
     match x with
     | .d (.sl sz rows)=>match rows[n.toNat]? with|some row=> .res (.d (.ept row)) [] [] (te.size=sz∧0≤n)|none=> .no
     | .own k g=>
      match h k with
      | .row e' sz g' rows=> .res (.rp k g sz n.toNat 0) [] [k] (e'=e∧g'=g∧te.size=sz∧0≤n∧n.toNat < rows.length)
      |_=> .no
     | .osl k g sz st m=> .res (.rp k g sz (st+n.toNat) 0) [] [] (te.size=sz∧0≤n∧n.toNat < m)
     |_=> .no
    |_=> .no
   |none=> .no
  |none=>
   match ti.arr,x,y with
   |some (m,e),.ptr k off,.d (.v (.int _ n))=>
    match T e with
    |some te=> .res (.ptr k (off+n.toNat*te.size)) [] [] (0≤n∧n.toNat < m)
    |none=> .no
   |_,_,_=> .no
 |none=> .no
def u6 (T:Nat→Option TI)(ti:Option TI)(x y:PV):SR:=
 match ti with
 |some ti=>
  match x,y with
  | .d (.v (.string a)),.d (.v (.int _ n))=> .res (.d (.v (.int .u8 (Ah a n.toNat)))) [] [] (ti.kind=2∧0≤n∧n.toNat < a.size)
  | .d (.agg ds),.d (.v (.int _ n))=>
   match ti.arr with
   |some (m,e)=>
    match T e with
    |some te=>match ds[n.toNat]? with|some q=> .res (.d q) [] [] (te.size=1∧te.agg=false∧0≤n∧n.toNat < m)|none=> .no
    |none=> .no
   |none=> .no
  |_,_=> .no
 |none=> .no
def yJ (x:PV)(i:Nat):SR:=
 match x with
 | .d (.tup ds)=>match ds[i]? with|some d=> .res (.d d) [] [] True|none=> .no
 | .tup ds=>match ds[i]? with|some d=> .res d [] [] True|none=> .no
 |_=> .no
def sh (e:cw):List (Nat × Operand)→Option (List (Nat × List PV))
 |[]=>some []
 |(i,x)::l=>
  if yy (dK e x)then
   match sh e l with
   |some pd=>some ((i,cV (dK e x))::pd)
   |none=>none
  else none
def u7 (T:Nat→Option TI)(ti:Option TI)(e:cw)(parts:List (Nat × Operand)):SR:=
 match ti with
 |some ti=>
  match ti.fields with
  |[]=>
   match ti.arr with
   |some (n,el)=>
    match T el,sh e parts with
    |some te,some pd=>
     match pz ((X5 n).map fun i=>(i*te.size,te.size)) (ti.zero.map fun x=> .d (.v x)) pd with
     |some out=> .res (r8 out) [] [] True
     |none=> .no
    |_,_=> .no
   |none=> .no
  |_::_=>
   match sh e parts with
   |some pd=>
    match pz ti.fields (ti.zero.map fun x=> .d (.v x)) pd with
    |some out=> .res (r8 out) [] [] True
    |none=> .no
   |none=> .no
 |none=> .no
def BS (e:cw):Nat→List (Nat × Operand)→Option (List (List PV))
 |_,[]=>some []
 |n,(i,x)::l=>
  if yy (dK e x)&&(i==n)then
   match BS e (n+1) l with
   |some rows=>some (cV (dK e x)::rows)
   |none=>none
  else none
def Si:List (List PV)→Option (List (List D))
 |[]=>some []
 |r::l=>match uR r,Si l with|some d,some ds=>some (d::ds)|_,_=>none
def u9 (sz:Nat):List (List PV)→Prop
 |[]=>True
 |r::l=>r.length=sz∧u9 sz l
def J4 (T:Nat→Option TI)(ti:Option TI)(nk:Nat)(e:cw)(n:Nat)(parts:List (Nat × Operand)):SR:=
 match ti with
 |some ti=>
  match ti.elem with
  |some el=>
   match T el with
   |some te=>
    match n,parts with
    |0,[]=> .res (.own nk 0) [(nk,.row el te.size 0 [])] [nk] True
    |n+1,parts=>
     match BS e 0 parts with
     |some rows=>
      match (if te.kind=2 then none else Si rows)with
      |some ds=> .res (.d (.sl te.size ds)) [] [] (0 < te.size∧(n+1)*te.size≤16777216∧rows.length=n+1∧u9 te.size rows)
      |none=> .res (.own nk 0) [(nk,.row el te.size 0 rows)] [nk] (0 < te.size∧(n+1)*te.size≤16777216∧rows.length=n+1∧u9 te.size rows)
     |none=> .no
    |_,_=> .no
   |none=> .no
  |none=> .no
 |none=> .no
def BT (T:Nat→Option TI)(ti:Option TI)(nk:Nat)(x y:PV):SR:=
 match ti with
 |some ti=>
  match ti.elem with
  |some el=>
   match T el with
   |some te=>
    match te.zero,x,y with
    |[zv],.d (.v (.int _ n)),.d (.v (.int _ m))=> .res (.own nk 0) [(nk,.row el 1 0 (XV n.toNat [.d (.v zv)]))] [nk] (n=m∧0 < n∧(te.bytes:Int)*n≤281474976710656∧n≤9223372036854775807)
    |_,_,_=> .no
   |none=> .no
  |none=> .no
 |none=> .no
def BU (T:Nat→Option TI)(ts td:Option TI)(x:PV):SR:=
 match ts,td with
 |some ts,some td=>
  match td.int,x with
  |some k,.d (.v (.int _ n))=> .res (.d (.v (.int k (k.wrap n)))) [] [] True
  |none,.d (.sl 1 rows)=>
   match ts.elem with
   |some e=>
    match T e with
    |some te=>match oa rows with|some xs=> .res (.d (.v (.string (strOfNums xs)))) [] [] (te.int=some .u8∧td.kind=2)|none=> .no
    |none=> .no
   |none=> .no
  |_,_=> .no
 |_,_=> .no
def J5 (ti:Option TI)(h:Nat→Chunk)(x:PV):SR:=
 match ti with
 |some ti=>
  match ti.elem with
  |some _=>
   match x with
   | .d (.sl _ rows)=> .res (.d (.v (.int .i64 rows.length))) [] [] True
   | .d (.v (.slice none 0 0))=> .res (.d (.v (.int .i64 (0:Nat)))) [] [] True
   | .own k g=>match h k with| .row _ _ g' rows=> .res (.d (.v (.int .i64 rows.length))) [] [k] (g=g')|_=> .no
   | .osl _ _ _ _ n=> .res (.d (.v (.int .i64 n))) [] [] True
   |_=> .no
  |none=>match x with| .d (.v (.string a))=> .res (.d (.v (.int .i64 a.size))) [] [] (ti.kind=2)|_=> .no
 |none=> .no
def NQ (h:Nat→Chunk)(sz:Nat)(y:PV):Option (List (List PV) × List Nat):=
 match y with
 | .d (.sl sz' news)=>if sz'=sz then some (ab news,[])else none
 | .d (.v (.slice _ 0 _))=>some ([],[])
 | .own k g=>match h k with| .row _ sz' g' rows=>if sz'=sz∧g'=g then some (rows,[k])else none|_=>none
 | .osl k g sz' st n=>match h k with| .row _ sz'' g' rows=>if sz'=sz∧sz''=sz∧g'=g then some ((rows.drop st).take n,[k])else none|_=>none
 |_=>none
def J6 (T:Nat→Option TI)(ti:Option TI)(nk:Nat)(h:Nat→Chunk)(x y:PV):SR:=
 match ti with
 |some ti=>
  match ti.elem with
  |some el=>
   match T el with
   |some te=>
    if te.size=0∨te.bytes=0 then .no else
    match NQ h te.size y with
    |some (news,ty)=>
     match x with
     | .own k g=>
      match h k with
      | .row e' sz g' rows=> .res (.own k (g+1)) [(k,.row e' sz (g+1) (rows++news))] (k::ty) (e'=el∧g'=g∧te.size=sz∧(rows.length+news.length)*te.bytes≤140737488355328)
      |_=> .no
     | .d (.v (.slice none 0 0))=> .res (.own nk 0) [(nk,.row el te.size 0 news)] (nk::ty) (news.length*te.bytes≤140737488355328)
     | .osl k g sz st n=>
      match h k with
      | .row e' sz' g' rows=> .res (.osl k g sz 0 (n+news.length)) [(k,.row e' sz' g' (ay rows n news))] (k::ty) (st=0∧e'=el∧g'=g∧sz'=sz∧te.size=sz∧rows≠[]∧n+news.length≤rows.length)
      |_=> .no
     |_=> .no
    |none=> .no
   |none=> .no
  |none=> .no
 |none=> .no
def vd (ti:Option TI)(h:Nat→Chunk)(dst:Option Nat)(x y:PV):SR:=
 match ti,dst with
 |some ti,none=>
  match x with
  | .ptr k off=>
   match h k with
   | .box T cells=>if yy y then .res .any [(k,.box T (ay cells off (cV y)))] [k] ((cV y).length=ti.size∧off+ti.size≤cells.length)else .no
   |_=> .no
  | .rp k g sz i j=>
   match h k with
   | .row E sz' g' rows=>
    match rows[i]? with
    |some row=>if yy y then .res .any [(k,.row E sz' g' (rows.set i (ay row j (cV y))))] [k] (g=g'∧sz=sz'∧(cV y).length=ti.size∧j+ti.size≤sz)else .no
    |none=> .no
   |_=> .no
  |_=> .no
 |_,_=> .no
def ve (T:Nat→Option TI)(ti:Option TI)(h:Nat→Chunk)(x:PV)(lo hi mx:Option PV):SR:=
 match ti with
 |some ti=>
  match ti.elem with
  |some e=>
   match T e with
   |some te=>
    match mx with
    |none=>
     match x with
     | .d (.sl sz rows)=>
      match FZ lo,F1 rows.length hi with
      |some l,some r=> .res (.d (.sl sz ((rows.take r).drop l))) [] [] (te.size=sz∧l≤r∧r≤rows.length)
      |_,_=> .no
     | .own k g=>
      match h k with
      | .row e' sz g' []=>
       match FZ lo,F1 0 hi with
       |some l,some r=> .res .any [] [k] (e'=e∧g'=g∧te.size=sz∧l=0∧r=0)
       |_,_=> .no
      | .row e' sz g' rows=>
       match FZ lo,F1 rows.length hi with
       |some l,some r=> .res (.osl k g sz l (r - l)) [] [k] (e'=e∧g'=g∧te.size=sz∧rows≠[]∧l≤r∧r≤rows.length)
       |_,_=> .no
      |_=> .no
     | .osl k g sz st n=>
      match h k with
      | .row e' sz' g' rows=>
       match FZ lo,F1 n hi with
       |some l,some r=> .res (.osl k g sz (st+l) (r - l)) [] [k] (e'=e∧g'=g∧sz'=sz∧te.size=sz∧rows≠[]∧l≤r∧st+r≤rows.length)
       |_,_=> .no
      |_=> .no
     |_=> .no
    |some m=>
     match x,lo,hi,m with
     | .own k g,some (.d (.v (.int _ n1))),some (.d (.v (.int _ n2))),.d (.v (.int _ n3))=>
      match h k with
      | .row e' sz g' rows=> .res .any [] [k] (e'=e∧g'=g∧te.size=sz∧rows≠[]∧0≤n1∧n1≤n2∧n2≤n3∧n3≤(rows.length:Int))
      |_=> .no
     |_,_,_,_=> .no
   |none=> .no
  |none=>
   match x,mx with
   | .d (.v (.string a)),none=>
    match FZ lo,F1 a.size hi with
    |some l,some r=> .res (.d (.v (.string (a.extract l r)))) [] [] (ti.kind=2∧l≤r∧r≤a.size)
    |_,_=> .no
   |_,_=> .no
 |none=> .no
def vf (T:Nat→Option TI)(ti:Option TI)(h:Nat→Chunk)(x:PV):SR:=
 match ti with
 |some ti=>
  match ti.elem with
  |some e=>
   match T e with
   |some te=>
    match x with
    | .osl k g sz st n=>
     match h k with
     | .row e' sz' g' rows=> .res (.d (.v (.tuple #[]))) [(k,.row e' sz' g' (ay rows st (XV n (te.zero.map fun x=> .d (.v x)))))] [k] (e'=e∧g'=g∧sz'=sz∧te.size=sz∧rows≠[]∧st+n≤rows.length)
     |_=> .no
    |_=> .no
   |none=> .no
  |none=> .no
 |none=> .no
def oc (ti:Option TI)(nk:Nat):SR:=
 match ti with
 |some ti=>
  match ti.mp with
  |some (n,sB)=> .res (.mref nk) [(nk,.mp n sB [])] [nk] True
  |none=> .no
 |none=> .no
def qK (ti:Option TI)(h:Nat→Chunk)(m x:PV)(ok:Bool):SR:=
 match ti with
 |some ti=>
  match ti.mp with
  |some (n,sB)=>
   match m with
   | .mref k=>
    match h k with
    | .mp n' sB' ents=>
     match Ey sB x with
     |some xs=> .res (if ok then .d (.tup [.v (.int .i64 ((kF ents xs).getD 0)),.v (.bool (kF ents xs).isSome)])else .d (.v (.int .i64 ((kF ents xs).getD 0)))) [] [k] (n'=n∧sB'=sB∧xs.length=n)
     |none=> .no
    |_=> .no
   |_=> .no
  |none=> .no
 |none=> .no
def si (ti:Option TI)(h:Nat→Chunk)(dst:Option Nat)(m x y:PV):SR:=
 match ti,dst with
 |some ti,none=>
  match ti.mp with
  |some (n,sB)=>
   match m with
   | .mref k=>
    match h k with
    | .mp n' sB' ents=>
     match Ey sB x,y with
     |some xs,.d (.v (.int .i64 v))=> .res .any [(k,.mp n' sB' (l9 ents xs v))] [k] (n'=n∧sB'=sB∧xs.length=n)
     |_,_=> .no
    |_=> .no
   |_=> .no
  |none=> .no
 |_,_=> .no
def vg (ti:Option TI)(h:Nat→Chunk)(nk:Nat)(m:PV):SR:=
 match ti with
 |some ti=>
  match ti.mp with
  |some (n,sB)=>
   match m with
   | .mref k=>
    match h k with
    | .mp n' sB' ents=> .res (.ptr nk 0) [(nk,.it n' sB' ents []),(k,.gone)] [k,nk] (n'=n∧sB'=sB)
    |_=> .no
   |_=> .no
  |none=> .no
 |none=> .no
def vh (h:Nat→Chunk)(x:PV):SR:=
 match x with
 | .ptr k 0=>
  match h k with
  | .it _ _ ents seen=>
   match seen.getLast? with
   |some i=>
    match ents[i]? with
    |some kv=> .res (.tup [.any,.d (.v (.int .i64 kv.2))]) [] [k] True
    |none=> .no
   |none=> .no
  |_=> .no
 |_=> .no
def BV (f:PV)(args:List PV):SR:=
 match f with
 | .clo g caps=> .call g (args++caps)
 | .d (.clo g cd)=> .call g (args++cd.map .d)
 |_=> .no
def Nl (T:Nat→Option TI)(Q:Nat→Option Nat)(e:cw)(hl:List Chunk)(o:Oper):SR:=
 match o.op with
 | .move x=> .res (dK e x) [] [] True
 | .assign x=> .res (dK e x) [] [] True
 | .pick c a b=>qJ (dK e c) (dK e a) (dK e b)
 | .unOp op _ x=>SE op (dK e x)
 | .nilCheck x=>J1 (dK e x)
 | .binOp op t x (.const .nilIface) _=>J3 (T t) op (dK e x)
 | .binOp op t x y _=>J2 (T t) (Q t) op (dK e x) (dK e y)
 | .fieldAddr t x f=>u4 (T t) f (dK e x)
 | .load t x=>BR (T t) (aG hl) (dK e x)
 | .indexAddr t x y=>u5 T (T t) (aG hl) (dK e x) (dK e y)
 | .index t x y=>u6 T (T t) (dK e x) (dK e y)
 | .extract x i=>yJ (dK e x) i
 | .alloc t=>match T t with|some ti=> .res (.ptr hl.length 0) [(hl.length,.box t (ti.zero.map fun x=> .d (.v x)))] [hl.length] True|none=> .no
 | .box t x=>if yy (dK e x)then .res (.ptr hl.length 0) [(hl.length,.box t (cV (dK e x)))] [hl.length] True else .no
 | .store t x y=>vd (T t) (aG hl) o.dst (dK e x) (dK e y)
 | .build t ⟨parts⟩=>u7 T (T t) e parts
 | .buildSlice t n ⟨parts⟩=>J4 T (T t) hl.length e n parts
 | .makeFunc (.func g) ⟨[]⟩ ⟨caps⟩=> .res (.clo g (caps.map (dK e))) [] [] True
 | .convert src dst x=>BU T (T src) (T dst) (dK e x)
 | .call ⟨.builtin .len,⟨[x]⟩,⟨[t]⟩⟩=>J5 (T t) (aG hl) (dK e x)
 | .slice t x lo hi mx=>ve T (T t) (aG hl) (dK e x) (lo.map (dK e)) (hi.map (dK e)) (mx.map (dK e))
 | .call ⟨.builtin .clear,⟨[x]⟩,⟨[t]⟩⟩=>vf T (T t) (aG hl) (dK e x)
 | .call ⟨.builtin .append,⟨[x,y]⟩,⟨[t,t']⟩⟩=>if t=t' then J6 T (T t) hl.length (aG hl) (dK e x) (dK e y)else .no
 | .call ⟨.builtin .min,⟨[x,y]⟩,_⟩=>match dK e x,dK e y with| .d (.v (.int k m)),.d (.v (.int k' n))=>if k=k' then .res (.d (.v (.int k (if n < m then n else m)))) [] [] True else .no|_,_=> .no
 | .call ⟨.builtin .max,⟨[x,y]⟩,_⟩=>match dK e x,dK e y with| .d (.v (.int k m)),.d (.v (.int k' n))=>if k=k' then .res (.d (.v (.int k (if m < n then n else m)))) [] [] True else .no|_,_=> .no
 | .call ⟨.value f,⟨args⟩,_⟩=>BV (dK e f) (args.map (dK e))
 | .makeSlice t x y=>BT T (T t) hl.length (dK e x) (dK e y)
 | .makeMap t none=>oc (T t) hl.length
 | .lookup t m x ok=>qK (T t) (aG hl) (dK e m) (dK e x) ok
 | .range t m=>vg (T t) (aG hl) hl.length (dK e m)
 | .entry x=>vh (aG hl) (dK e x)
 | .mapUpdate t m x y=>si (T t) (aG hl) o.dst (dK e m) (dK e x) (dK e y)
 | .insert t m x y=>si (T t) (aG hl) o.dst (dK e m) (dK e x) (dK e y)
 |_=> .no
end Go.Proofs.YtmicljipaiohkaaGreat
