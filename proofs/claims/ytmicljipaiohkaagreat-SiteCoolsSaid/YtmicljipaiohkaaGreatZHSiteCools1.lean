/- Texts of this work, joined. -/
import Derived.WalkKit
import Derived.WalkSmall
import Derived.WideKeyRuns
import Derived.Carry
import Derived.Laws.MakeOwn
import Derived.Maps.RangeRun
import Derived.Laws.IdiomRangeMap
set_option linter.unusedSimpArgs false
set_option linter.unusedVariables false
set_option maxRecDepth 100000
set_option maxHeartbeats 16000000
namespace Go.Proofs.YtmicljipaiohkaaGreat
open Go Go.RowKit
abbrev Ext (w w':World):Prop:=Below w.heap.size w w'
structure Bel (B:Nat)(a w:World):Prop where
 bel:Below B a w
 le:B≤w.heap.size
theorem Bel.refl (w:World):Bel w.heap.size w w:=⟨Below.refl _ _,Nat.le_refl _⟩
theorem Bel.alloc {B:Nat}{a w:World}(h:Bel B a w)(o:Obj):Bel B a (w.alloc o):=⟨h.bel.alloc h.le o,by have:=h.le;simp;omega⟩
theorem Bel.setCell {B:Nat}{a w:World}(h:Bel B a w){p:Addr}(hp:B≤p.block)(u:Value):Bel B a (w.setCell p u):=
 ⟨h.bel.setCell hp u,by have:=h.le;simpa[World.setCell]using this⟩
theorem Bel.setCell0 {B:Nat}{a w:World}(h:Bel B a w){b o:Nat}(hp:B≤b)(u:Value):Bel B a (w.setCell ⟨b,o,none⟩ u):=h.setCell (p:=⟨b,o,none⟩) hp u
theorem Bel.drewN {B:Nat}{a w:World}(h:Bel B a w)(n:Nat):Bel B a (w.drewN n):=⟨below_drewN h.bel n,h.le⟩
theorem Bel.drew {B:Nat}{a w:World}(h:Bel B a w):Bel B a w.drew:=⟨h.bel.drew,h.le⟩
theorem Bel.call {B:Nat}{a w w':World}(h:Bel B a w)(k:Ext w w'):Bel B a w':=⟨h.bel.trans (k.mono h.le),Nat.le_trans h.le k.size⟩
theorem Bel.ext {a w:World}(h:Bel a.heap.size a w):Ext a w:=h.bel
theorem Bel.cell {B:Nat}{a w:World}(h:Bel B a w){b off:Nat}{v:Value}(hb:b < B)(hc:a.cell? ⟨b,off,none⟩=some v):w.cell? ⟨b,off,none⟩=some v:=
 (h.bel.cell (p:=⟨b,off,none⟩) hb).trans hc
theorem bcell {W w1:World}(hb:Ext W w1):(∀b o,b < W.heap.size→w1.cell? ⟨b,o,none⟩=W.cell? ⟨b,o,none⟩)∧(∀b o,b < W.heap.size→w1.frozen? ⟨b,o,none⟩=W.frozen? ⟨b,o,none⟩):=
 ⟨fun b o h=>hb.cell (p:=⟨b,o,none⟩) h,fun b o h=>hb.frozen (p:=⟨b,o,none⟩) h⟩
theorem bsize {W w1:World}(hb:Ext W w1):W.heap.size≤w1.heap.size:=hb.size
theorem World.size_setCell (w:World)(a:Addr)(v:Value):(w.setCell a v).heap.size=w.heap.size:=by simp[World.setCell]
theorem keepCell {X w1:World}(h:Ext X w1){b o:Nat}{v:Value}(hc:X.cell? ⟨b,o,none⟩=some v):w1.cell? ⟨b,o,none⟩=some v:=
 (h.cell (p:=⟨b,o,none⟩) (World.block_lt_of_cell? X ⟨b,o,none⟩ hc)).trans hc
abbrev Area:=Nat→Prop
def cellsAt (w:World)(b off:Nat)(cs:List Value):Prop:=∀i (h:i < cs.length),w.cell? ⟨b,off+i,none⟩=some cs[i]
structure Sl {α:Type}(A:Area)(w:World)(k:Nat)(R:List Value→α→Prop)(ao:Option Addr)(cap:Nat)(l:List α):Prop where
 cap_le:l.length≤cap
 cap_max:cap≤9223372036854775807
 elem:∀i (h:i < l.length),∃b off cs,ao=some ⟨b,off,none⟩∧A b∧cs.length=k∧R cs l[i]∧cellsAt w b (off+i*k) cs
def IsSl {α:Type}(A:Area)(w:World)(k:Nat)(R:List Value→α→Prop)(v:Value)(l:List α):Prop:=
 ∃ao cap,v= .slice ao l.length cap∧Sl A w k R ao cap l
theorem lt_of_cell {w:World}{b off:Nat}{v:Value}(h:w.cell? ⟨b,off,none⟩=some v):b < w.heap.size:=by
 rcases Nat.lt_or_ge b w.heap.size with hb|hb
 ·exact hb
 ·simp[World.cell?,Array.getElem?_eq_none hb]at h
theorem cell_of_block {w:World}{b o:Nat}{cs:Array Value}{t:TypeId}{f:Nat × Nat}{v:Value}(h:w.heap[b]? =some (.cells cs t f))(hv:cs[o]? =some v):w.cell? ⟨b,o,none⟩=some v:=by
 simp[World.cell?,h,hv]
theorem free_of_block {w:World}{b o:Nat}{cs:Array Value}{t:TypeId}(h:w.heap[b]? =some (.cells cs t (0,0))):w.frozen? ⟨b,o,none⟩=false:=by
 simp[World.frozen?,h]
theorem block_alloc {w:World}{o:Obj}{b:Nat}{x:Obj}(h:w.heap[b]? =some x):(w.alloc o).heap[b]? =some x:=by
 have hlt:b < w.heap.size:=by
  rcases Nat.lt_or_ge b w.heap.size with h'|h'
  ·exact h'
  ·simp[Array.getElem?_eq_none h']at h
 rw[Below.heap_alloc _ _ _ hlt,h]
theorem block_new (w:World)(o:Obj):(w.alloc o).heap[w.heap.size]? =some o:=by
 show (w.heap.push o)[w.heap.size]? =_
 simp
theorem block_new' {w:World}{n:Nat}(o:Obj)(h:w.heap.size=n):(w.alloc o).heap[n]? =some o:=by subst h;exact block_new w o
theorem block_setCell {w:World}{b o:Nat}{c:Array Value}{t:TypeId}{f:Nat × Nat}(h:w.heap[b]? =some (.cells c t f))(v:Value):(w.setCell ⟨b,o,none⟩ v).heap[b]? =some (.cells (c.setIfInBounds o v) t f):=by
 simp[World.setCell,Array.getElem?_modify,h]
theorem block_setCell_ne {w:World}{b:Nat}{a:Addr}(v:Value)(h:a.block≠b):(w.setCell a v).heap[b]? =w.heap[b]? :=Below.heap_setCell _ _ _ _ (fun e=>h e.symm)
theorem block_ext {w w':World}(hx:Ext w w'){b:Nat}{o:Obj}(hb:w.heap[b]? =some o):w'.heap[b]? =some o:=by
 have hlt:b < w.heap.size:=by
  rcases Nat.lt_or_ge b w.heap.size with h|h
  ·exact h
  ·simp[Array.getElem?_eq_none h]at hb
 rw[hx.block b hlt,hb]
theorem ext_alloc (w:World)(o:Obj):Ext w (w.alloc o):=((Bel.refl w).alloc o).bel
theorem ext_trans {a b c:World}(h:Ext a b)(k:Ext b c):Ext a c:=Below.trans h (Below.mono k h.size)
inductive D where
 |v (x:Value)
 |sl (sz:Nat) (rows:List (List D))
 |ept (cells:List D)
 |agg (cells:List D)
 |tup (vs:List D)
 |clo (g:Nat) (caps:List D)
 |nei
def D.one:D→Bool
 | .v x=>x.oneCell'
 | .agg _=>false
 | .tup _=>false
 |_=>true
inductive RepD (M:Nat→Prop) (w:World):D→Value→Prop
 |v (x:Value):RepD M w (.v x) x
 |nil (sz:Nat) (ao:Option Addr) (cap:Nat) (hm:cap≤9223372036854775807):RepD M w (.sl sz []) (.slice ao 0 cap)
 |sl (sz:Nat) (rows:List (List D)) (b off cap:Nat) (f:Nat→Nat→Value) (hM:¬M b) (hb:b < w.heap.size) (hc:rows.length≤cap) (hm:cap≤9223372036854775807)
  (hr:∀r∈rows,r.length=sz) (h1:∀r∈rows,∀d∈r,d.one=true)
  (hcell:∀i j,i < rows.length→j < sz→w.cell? ⟨b,off+i*sz+j,none⟩=some (f i j))
  (hrep:∀(i j:Nat) (row:List D) (d:D),rows[i]? =some row→row[j]? =some d→RepD M w d (f i j)):RepD M w (.sl sz rows) (.slice (some ⟨b,off,none⟩) rows.length cap)
 |ept (cells:List D) (b off:Nat) (f:Nat→Value) (hM:¬M b) (hb:b < w.heap.size) (h1:∀d∈cells,d.one=true)
  (hcell:∀j,j < cells.length→w.cell? ⟨b,off+j,none⟩=some (f j))
  (hrep:∀(j:Nat) (d:D),cells[j]? =some d→RepD M w d (f j)):RepD M w (.ept cells) (.pointer (some ⟨b,off,none⟩))
 |agg (cells:List D) (vs:List Value) (hl:cells.length=vs.length) (h1:∀d∈cells,d.one=true)
  (hrep:∀(j:Nat) (d:D) (x:Value),cells[j]? =some d→vs[j]? =some x→RepD M w d x):RepD M w (.agg cells) (.agg vs.toArray)
 |tup (ds:List D) (vs:List Value) (hl:ds.length=vs.length)
  (hrep:∀(j:Nat) (d:D) (x:Value),ds[j]? =some d→vs[j]? =some x→RepD M w d x):RepD M w (.tup ds) (.tuple vs.toArray)
 |clo (g:Nat) (caps:List D) (vs:List Value) (hl:caps.length=vs.length)
  (hrep:∀(j:Nat) (d:D) (x:Value),caps[j]? =some d→vs[j]? =some x→RepD M w d x):RepD M w (.clo g caps) (.func (.func g) #[] vs.toArray)
 |nei (t:TypeId) (x:Value):RepD M w .nei (.iface t x)
structure Keep (M:Nat→Prop)(w:World)(M':Nat→Prop)(w':World):Prop where
 size:w.heap.size≤w'.heap.size
 block:∀b,b < w.heap.size→¬M b→w'.heap[b]? =w.heap[b]?
 mu:∀b,b < w.heap.size→M' b→M b
theorem Keep.refl (M:Nat→Prop)(w:World):Keep M w M w:=⟨Nat.le_refl _,fun _ _ _=>rfl,fun _ _ h=>h⟩
theorem Keep.ext {M:Nat→Prop}{w w':World}(h:Ext w w')(hM:∀b,M b→b < w.heap.size):Keep M w M w':=⟨h.size,fun b hb _=>h.block b hb,fun _ _ h=>h⟩
theorem RepD.keep {M M':Nat→Prop}{w w':World}(hk:Keep M w M' w'){d:D}{x:Value}(h:RepD M w d x):RepD M' w' d x:=by
 induction h with
 |v x=>exact .v x
 |nil sz ao cap hm=>exact .nil sz ao cap hm
 |sl sz rows b off cap f hM hb hc hm hr h1 hcell hrep ih=>
  refine .sl sz rows b off cap f (fun h=>hM (hk.mu b hb h)) (Nat.lt_of_lt_of_le hb hk.size) hc hm hr h1 (fun i j hi hj=>?_) ih
  rw[←hcell i j hi hj]
  exact World.cell?_of_block (a:=⟨b,off+i*sz+j,none⟩) (hk.block b hb hM)
 |ept cells b off f hM hb h1 hcell hrep ih=>
  refine .ept cells b off f (fun h=>hM (hk.mu b hb h)) (Nat.lt_of_lt_of_le hb hk.size) h1 (fun j hj=>?_) ih
  rw[←hcell j hj]
  exact World.cell?_of_block (a:=⟨b,off+j,none⟩) (hk.block b hb hM)
 |agg cells vs hl h1 hrep ih=>exact .agg cells vs hl h1 ih
 |tup ds vs hl hrep ih=>exact .tup ds vs hl ih
 |clo g caps vs hl hrep ih=>exact .clo g caps vs hl ih
 |nei t x=>exact .nei t x
theorem RepD.one {M:Nat→Prop}{w:World}{d:D}{x:Value}(h:RepD M w d x)(h1:d.one=true):x.oneCell'=true:=by
 cases h<;>first|rfl|exact h1|(simp[D.one]at h1)
def gTab:List (Nat × (Array Value→Prop)):=[]
def GInv (M:Nat→Prop)(w:World):Prop:=∀x∈gTab,¬M x.1∧∃vs E sp,w.heap[x.1]? =some (.cells vs E sp)∧x.2 vs
theorem GInv.keep {M M':Nat→Prop}{w w':World}(h:GInv M w)(hk:Keep M w M' w'):GInv M' w':=fun x hx=>by
 obtain⟨h1,vs,E,sp,h2,h3⟩:=h x hx
 have hlt:x.1 < w.heap.size:=(Array.getElem?_eq_some_iff.1 h2).1
 exact⟨fun hm=>h1 (hk.mu _ hlt hm),vs,E,sp,(hk.block _ hlt h1).trans h2,h3⟩
inductive PV where
 |d (x:D)
 |any
 |ptr (k off:Nat)
 |own (k g:Nat)
 |rp (k g sz i j:Nat)
 |osl (k g sz a n:Nat)
 |clo (g:Nat) (caps:List PV)
 |agg (cells:List PV)
 |tup (vs:List PV)
 |mref (k:Nat)
def PV.one:PV→Bool
 | .d x=>x.one
 | .any=>false
 | .agg _=>false
 | .tup _=>false
 |_=>true
def ownB:Value→Option Nat
 | .slice (some a) _ (_+1)=>some a.block
 |_=>none
inductive OwnV (w:World) (E sz:Nat):Value→Nat→List Value→Prop
 |nil:OwnV w E sz (.slice none 0 0) 0 []
 |zero (a:Addr):OwnV w E sz (.slice (some a) 0 0) 0 []
 |row (g n cap:Nat) (cur:Array Value) (xs:List Value) (h0:0 < cap) (hh:w.heap[g]? =some (.cells cur E (0,0))) (hn:n≤cap) (hm:cap≤maxLen) (hs:cur.size=cap*sz) (hl:xs.length=n*sz) (ht:cur.toList.take (n*sz)=xs):
  OwnV w E sz (.slice (some ⟨g,0,none⟩) n cap) n xs
theorem OwnV.one {w:World}{E sz:Nat}{v:Value}{n:Nat}{xs:List Value}(h:OwnV w E sz v n xs):v.oneCell'=true:=by cases h<;>rfl
theorem OwnV.len {w:World}{E sz:Nat}{v:Value}{n:Nat}{xs:List Value}(h:OwnV w E sz v n xs):xs.length=n*sz:=by
 cases h with
 |nil=>simp
 |zero=>simp
 |row g n cap cur xs h0 hh hn hm hs hl ht=>exact hl
theorem OwnV.lt {w:World}{E sz:Nat}{v:Value}{n:Nat}{xs:List Value}(h:OwnV w E sz v n xs){b:Nat}(hb:ownB v=some b):b < w.heap.size:=by
 cases h with
 |nil=>cases hb
 |zero=>cases hb
 |row g n cap cur xs h0 hh hn hm hs hl ht=>
  obtain⟨cap,rfl⟩:∃c,cap=c+1:=⟨cap - 1,by omega⟩
  simp only[ownB,Option.some.injEq]at hb
  subst hb
  rcases Nat.lt_or_ge g w.heap.size with hl|hl
  ·exact hl
  ·rw[Array.getElem?_eq_none hl]at hh;cases hh
theorem OwnV.same {w w':World}{E sz:Nat}{v:Value}{n:Nat}{xs:List Value}(h:OwnV w E sz v n xs)(hb:∀b,ownB v=some b→w'.heap[b]? =w.heap[b]?):OwnV w' E sz v n xs:=by
 cases h with
 |nil=>exact .nil
 |zero a=>exact .zero a
 |row g n cap cur xs h0 hh hn hm hs hl ht=>
  refine .row g n cap cur xs h0 ?_ hn hm hs hl ht
  rw[hb g (by obtain⟨cap,rfl⟩:∃c,cap=c+1:=⟨cap - 1,by omega⟩;rfl)]
  exact hh
structure Cx where
 M:Nat→Prop
 bl:Nat→Option Nat
 ov:Nat→Nat→Option Value
inductive RepP (c:Cx) (w:World):PV→Value→Prop
 |d (x:D) (v:Value) (h:RepD c.M w x v):RepP c w (.d x) v
 |any (v:Value):RepP c w .any v
 |ptr (k off b:Nat) (h:c.bl k=some b):RepP c w (.ptr k off) (.pointer (some ⟨b,off,none⟩))
 |own (k g:Nat) (v:Value) (h:c.ov k g=some v) (h1:v.oneCell'=true):RepP c w (.own k g) v
 |rp (k g sz i j b n cap:Nat) (h:c.ov k g=some (.slice (some ⟨b,0,none⟩) n cap)):RepP c w (.rp k g sz i j) (.pointer (some ⟨b,i*sz+j,none⟩))
 |osl (k g sz a n b o N cap:Nat) (h:c.ov k g=some (.slice (some ⟨b,0,none⟩) N cap)) (hn:a+n≤N) (hc:N≤cap) (ho:a < cap→o=a*sz):RepP c w (.osl k g sz a n) (.slice (some ⟨b,o,none⟩) n (cap - a))
 |clo (g:Nat) (caps:List PV) (vs:List Value) (hl:caps.length=vs.length)
  (hrep:∀(j:Nat) (d:PV) (x:Value),caps[j]? =some d→vs[j]? =some x→RepP c w d x):RepP c w (.clo g caps) (.func (.func g) #[] vs.toArray)
 |agg (cells:List PV) (vs:List Value) (hl:cells.length=vs.length) (h1:∀d∈cells,d.one=true)
  (hrep:∀(j:Nat) (d:PV) (x:Value),cells[j]? =some d→vs[j]? =some x→RepP c w d x):RepP c w (.agg cells) (.agg vs.toArray)
 |tup (ds:List PV) (vs:List Value) (hl:ds.length=vs.length)
  (hrep:∀(j:Nat) (d:PV) (x:Value),ds[j]? =some d→vs[j]? =some x→RepP c w d x):RepP c w (.tup ds) (.tuple vs.toArray)
 |mref (k b:Nat) (h:c.bl k=some b):RepP c w (.mref k) (.map (some b))
structure Cx.le (c c':Cx):Prop where
 bl:∀k b,c.bl k=some b→c'.bl k=some b
 ov:∀k g v,c.ov k g=some v→c'.ov k g=some v
theorem Cx.le_refl (c:Cx):c.le c:=⟨fun _ _ h=>h,fun _ _ _ h=>h⟩
theorem RepP.keep {c c':Cx}{w w':World}(hc:c.le c')(hk:Keep c.M w c'.M w'){d:PV}{x:Value}(h:RepP c w d x):RepP c' w' d x:=by
 induction h with
 |d x v h=>exact .d x v (h.keep hk)
 |any v=>exact .any v
 |ptr k off b h=>exact .ptr k off b (hc.bl _ _ h)
 |own k g v h h1=>exact .own k g v (hc.ov _ _ _ h) h1
 |rp k g sz i j b n cap h=>exact .rp k g sz i j b n cap (hc.ov _ _ _ h)
 |osl k g sz a n b o N cap h hn hc2 ho=>exact .osl k g sz a n b o N cap (hc.ov _ _ _ h) hn hc2 ho
 |clo g caps vs hl hrep ih=>exact .clo g caps vs hl ih
 |agg cells vs hl h1 hrep ih=>exact .agg cells vs hl h1 ih
 |tup ds vs hl hrep ih=>exact .tup ds vs hl ih
 |mref k b h=>exact .mref k b (hc.bl _ _ h)
theorem RepP.one {c:Cx}{w:World}{d:PV}{x:Value}(h:RepP c w d x)(h1:d.one=true):x.oneCell'=true:=by
 cases h with
 |d x v h=>exact h.one h1
 |any=>simp[PV.one]at h1
 |ptr=>rfl
 |own k g v h h2=>exact h2
 |agg=>simp[PV.one]at h1
 |tup=>simp[PV.one]at h1
 |_=>rfl
inductive Chunk where
 |none
 |gone
 |box (T:Nat) (cells:List PV)
 |row (E sz g:Nat) (rows:List (List PV))
 |mp (n:Nat) (s:Bool) (ents:List (List Int × Int))
 |it (n:Nat) (s:Bool) (ents:List (List Int × Int)) (seen:List Nat)
def dRows (rows:List (List D)):List (List PV):=rows.map (·.map .d)
def keyV (s:Bool)(ks:List Int):Value:=if s then .agg (ks.map (.int .i64)).toArray else .int .i64 (ks.headD 0)
def mapEnts (s:Bool):List (List Int × Int)→Nat→List MapEntry
 |[],_=>[]
 |(k,v)::l,i=>{key:=keyV s k,val:= .int .i64 v,born:=i}::mapEnts s l (i+1)
def Cx.block (c:Cx)(k:Nat):Chunk→Option Nat
 | .box _ _=>c.bl k
 | .row _ _ g _=>(c.ov k g).bind ownB
 | .mp _ _ _=>c.bl k
 | .it _ _ _ _=>c.bl k
 |_=>Option.none
def RepPs (c:Cx)(w:World)(ds:List PV)(vs:List Value):Prop:=ds.length=vs.length∧∀(j:Nat) (d:PV) (x:Value),ds[j]? =some d→vs[j]? =some x→RepP c w d x
def RepDs (M:Nat→Prop)(w:World)(ds:List D)(vs:List Value):Prop:=ds.length=vs.length∧∀(j:Nat) (d:D) (x:Value),ds[j]? =some d→vs[j]? =some x→RepD M w d x
theorem RepPs.keep {c c':Cx}{w w':World}(hc:c.le c')(hk:Keep c.M w c'.M w'){ds:List PV}{vs:List Value}(h:RepPs c w ds vs):RepPs c' w' ds vs:=⟨h.1,fun j d x h1 h2=>(h.2 j d x h1 h2).keep hc hk⟩
theorem RepDs.keep {M M':Nat→Prop}{w w':World}(hk:Keep M w M' w'){ds:List D}{vs:List Value}(h:RepDs M w ds vs):RepDs M' w' ds vs:=⟨h.1,fun j d x h1 h2=>(h.2 j d x h1 h2).keep hk⟩
inductive ChunkOK (c:Cx) (w:World) (k:Nat):Chunk→Prop
 |none (h1:c.bl k= .none) (h2:∀g,c.ov k g= .none):ChunkOK c w k .none
 |gone:ChunkOK c w k .gone
 |box (T:Nat) (cells:List PV) (b:Nat) (vs:List Value) (hb:c.bl k=some b) (hh:w.heap[b]? =some (.cells vs.toArray T (0,0))) (hr:RepPs c w cells vs) (h1:∀d∈cells,d.one=true):ChunkOK c w k (.box T cells)
 |row (E sz g:Nat) (rows:List (List PV)) (v:Value) (xs:List Value) (hv:c.ov k g=some v) (hown:OwnV w E sz v rows.length xs) (hr:RepPs c w rows.flatten xs)
  (hsz:∀r∈rows,r.length=sz) (h1:∀r∈rows,∀d∈r,d.one=true) (hg:∀g',g < g'→c.ov k g'= .none):ChunkOK c w k (.row E sz g rows)
 |mp (n:Nat) (s:Bool) (ents:List (List Int × Int)) (b:Nat) (hb:c.bl k=some b) (hh:w.heap[b]? =some (.map (mapEnts s ents 0).toArray ents.length)) (hn:∀kv∈ents,kv.1.length=n):ChunkOK c w k (.mp n s ents)
 |it (n:Nat) (s:Bool) (ents:List (List Int × Int)) (seen:List Nat) (b bm:Nat) (hb:c.bl k=some b) (hh:w.heap[b]? =some (.mapIter (some bm) ents.length seen.toArray ents.length)) (hM:¬c.M bm) (hm:w.heap[bm]? =some (.map (mapEnts s ents 0).toArray ents.length)):ChunkOK c w k (.it n s ents seen)
structure FS where
 env:Nat→PV
 heap:Nat→Chunk
structure ExtL (L:Nat→Prop)(w w':World):Prop where
 os:w'.os=w.os
 tape:w'.tape=w.tape
 output:w'.output=w.output
 size:w.heap.size≤w'.heap.size
 block:∀b,b < w.heap.size→¬L b→w'.heap[b]? =w.heap[b]?
theorem ExtL.refl (L:Nat→Prop)(w:World):ExtL L w w:=⟨rfl,rfl,rfl,Nat.le_refl _,fun _ _ _=>rfl⟩
theorem ExtL.trans {L:Nat→Prop}{w w' w'':World}(h:ExtL L w w')(g:ExtL L w' w''):ExtL L w w'':=
 ⟨g.os.trans h.os,g.tape.trans h.tape,g.output.trans h.output,Nat.le_trans h.size g.size,fun b hb hl=>(g.block b (Nat.lt_of_lt_of_le hb h.size) hl).trans (h.block b hb hl)⟩
theorem ExtL.of_ext {L:Nat→Prop}{w w':World}(h:Ext w w'):ExtL L w w':=⟨h.os,h.tape,h.output,h.size,fun b hb _=>h.block b hb⟩
theorem ExtL.ext {w w':World}(h:ExtL (fun _=>False) w w'):Ext w w':=⟨h.os,h.tape,h.output,h.size,fun b hb=>h.block b hb id⟩
structure Cfg where
 P:Program
 n:Nat
 m:Nat
 w0:World
 M0:Nat→Prop
 L:Nat→Prop
 c0:Cx
structure RealC (X:Cfg)(s:FS)(a:Act)(w:World)(c:Cx):Prop where
 size:a.tmps.size=X.n
 defers:a.defers=[]
 ext:ExtL X.L X.w0 w
 inv:GInv (fun b=>X.M0 b∨X.L b) X.w0
 fresh:∀b,X.M0 b→b < X.w0.heap.size∧¬X.L b
 mu:∀b,c.M b↔X.M0 b∨∃k,c.block k (s.heap k)=some b
 new:∀k b,c.block k (s.heap k)=some b→(X.L b∨X.w0.heap.size≤b)∧b < w.heap.size
 apart:∀k k' b,c.block k (s.heap k)=some b→c.block k' (s.heap k')=some b→k=k'
 env:∀t,RepP c w (s.env t) (a.tmps.getD t undef)
 chunk:∀k,ChunkOK c w k (s.heap k)
 lent:∀k,k < X.m→c.bl k=X.c0.bl k∧∀g v,X.c0.ov k g=some v→c.ov k g=some v
theorem RealC.ginv {X:Cfg}{s:FS}{a:Act}{w:World}{c:Cx}(h:RealC X s a w c):GInv c.M w:=
 h.inv.keep ⟨h.ext.size,fun b hb hn=>h.ext.block b hb (fun hl=>hn (.inr hl)),fun b hb hm=>by
  rcases(h.mu b).1 hm with h0|⟨k,hk⟩
  ·exact .inl h0
  ·rcases(h.new k b hk).1 with h1|h1
   ·exact .inr h1
   ·omega⟩
def Real (X:Cfg)(s:FS)(a:Act)(w:World):Prop:=∃c,RealC X s a w c
structure Res where
 pv:PV
 eff:List (Nat × Chunk):=[]
 touch:List Nat:=[]
def effH:List (Nat × Chunk)→(Nat→Chunk)→Nat→Chunk
 |[],h=>h
 |(k,c)::l,h=>fun k'=>if k'=k then c else effH l h k'
def FS.put (s:FS)(dst:Option Nat)(p:PV):FS:=
 match dst with
 |some d=>{s with env:=fun t=>if t=d then p else s.env t}
 |none=>s
def FS.app (s:FS)(dst:Option Nat)(r:Res):FS:=FS.put {s with heap:=effH r.eff s.heap} dst r.pv
def OpOK (X:Cfg)(ops:Array Oper)(s:FS)(o:Oper)(r:Res):Prop:=
 (∀d,o.dst=some d→d < X.n)∧(∀kc∈r.eff,kc.1∈r.touch)∧
 ∀s':FS,(∀t∈o.looksAt ops,s'.env t=s.env t)→(∀k∈r.touch,s'.heap k=s.heap k)→∀a w,Real X s' a w→
  ∀K Q,(∀v w',Real X (s'.app o.dst r) (a.put o.dst v) w'→K (a.put o.dst v) w')→Oper.wp X.P o a w K Q
structure It where
 o:Oper
 want:Bool
 res:Res
def yieldS (ops:Array Oper)(s:FS)(j:Nat):Option (Option Bool):=
 match (ops[j]?).bind (·.dst)with
 |none=>some none
 |some t=>match s.env t with
  | .d (.v (.bool b))=>some (some b)
  | .d (.v (.tuple _))=>some none
  |_=>none
def guardS (ops:Array Oper)(s:FS)(o:Oper):Option Bool:=
 match o.guard with
 |none=>some true
 |some (j,want)=>(yieldS ops s j).map (·==some want)
def undefR:Res:={pv:= .d (.v undef)}
def ItOK (X:Cfg)(ops:Array Oper)(s:FS)(it:It):Prop:=
 guardS ops s it.o=some it.want∧(it.want=true→OpOK X ops s it.o it.res)∧(it.want=false→it.res=undefR∧∀d,it.o.dst=some d→d < X.n)
theorem RealC.put {X:Cfg}{s:FS}{a:Act}{w:World}{c:Cx}(h:RealC X s a w c){p:PV}{v:Value}(hp:RepP c w p v){dst:Option Nat}(hd:∀d,dst=some d→d < X.n):
 RealC X (s.put dst p) (a.put dst v) w c:=by
 cases dst with
 |none=>exact h
 |some d=>
  have hd:=hd d rfl
  refine⟨by simpa[Act.put]using h.size,by simpa[Act.put]using h.defers,h.ext,h.inv,h.fresh,h.mu,h.new,h.apart,fun t=>?_,h.chunk,h.lent⟩
  by_cases ht:t=d
  ·subst ht
   have hs:t < a.tmps.size:=by rw[h.size];exact hd
   simp only[FS.put,Act.put,if_true,Array.getD_eq_getD_getElem?,Array.getElem?_setIfInBounds,hs]
   simpa[hs]using hp
  ·have hne:d≠t:=fun e=>ht e.symm
   have:=h.env t
   simp only[FS.put,Act.put,if_neg ht,Array.getD_eq_getD_getElem?,Array.getElem?_setIfInBounds_ne hne]
   simpa[Array.getD_eq_getD_getElem?]using this
theorem RealC.bool {X:Cfg}{s:FS}{a:Act}{w:World}{c:Cx}(h:RealC X s a w c){t:Nat}{x:Value}(ht:s.env t= .d (.v x)):a.tmps.getD t undef=x:=by
 have:=h.env t
 rw[ht]at this
 cases this with
 |d x v h=>cases h with|v=>rfl
theorem guard_ok {X:Cfg}{ops:Array Oper}{s:FS}{a:Act}{w:World}{o:Oper}{g:Bool}(h:Real X s a w)(hg:guardS ops s o=some g):Region.wanted o (yielded ops a.tmps)=g:=by
 obtain⟨c,h⟩:=h
 unfold guardS at hg
 unfold Region.wanted
 split at hg
 ·rename_i hn
  simp only[hn]
  exact Option.some.inj hg
 ·rename_i j want hj
  simp only[hj]
  unfold yieldS at hg
  unfold yielded
  split at hg
  ·rename_i hn
   rw[hn]
   simp at hg
   simpa using hg
  ·rename_i t hn
   rw[hn]
   split at hg
   ·rename_i b hb
    have:=h.bool hb
    rw[Array.getD_eq_getD_getElem?]at this
    cases hx:a.tmps[t]? with
    |none=>rw[hx]at this;simp[undef]at this
    |some y=>
     rw[hx]at this
     simp at this
     subst this
     simp only[Option.bind_some,hx]
     simpa using hg
   ·rename_i vs hb
    have:=h.bool hb
    rw[Array.getD_eq_getD_getElem?]at this
    cases hx:a.tmps[t]? with
    |none=>simp only[Option.bind_some,hx];simpa using hg
    |some y=>
     rw[hx]at this
     simp at this
     subst this
     simp only[Option.bind_some,hx]
     simpa using hg
   ·simp at hg
theorem it_run {X:Cfg}{ops:Array Oper}{s s':FS}{it:It}{i:Nat}{a:Act}{w:World}{K:Act→World→Prop}{Q:Exit→Act→World→Prop}(hi:ops[i]? =some it.o)(h:ItOK X ops s it)
 (he:∀t∈it.o.looksAt ops,s'.env t=s.env t) (hk:∀k∈it.res.touch,s'.heap k=s.heap k) (hr:Real X s' a w)
 (hK:∀v w',Real X (s'.app it.o.dst it.res) (a.put it.o.dst v) w'→K (a.put it.o.dst v) w'):wpOp X.P ops Q i K a w:=by
 obtain⟨h1,h2,h3⟩:=h
 have hg:guardS ops s' it.o=some it.want:=by
  rw[←h1]
  unfold guardS
  split
  ·rfl
  ·rename_i j want hj
   unfold yieldS
   cases hd:(ops[j]?).bind (·.dst)with
   |none=>rfl
   |some t=>
    have:=he t (by simp[Oper.looksAt,hj,hd])
    simp only[this]
 have hw:=guard_ok hr hg
 unfold wpOp
 simp only[hi,hw]
 cases hwant:it.want with
 |true=>
  simp only[if_true]
  exact .inl ((h2 hwant).2.2 s' he hk a w hr K Q hK)
 |false=>
  obtain⟨hres,hdst⟩:=h3 hwant
  simp only[Bool.false_eq_true,if_false]
  refine hK undef w ?_
  rw[hres]
  obtain⟨c,hc⟩:=hr
  exact⟨c,hc.put (.d _ _ (.v _)) hdst⟩
def TraceOK (X:Cfg)(ops:Array Oper):FS→Nat→List It→Prop
 |_,i,[]=>i=ops.size
 |s,i,it::its=>ops[i]? =some it.o∧ItOK X ops s it∧TraceOK X ops (s.app it.o.dst it.res) (i+1) its
def runS (s:FS)(its:List It):FS:=its.foldl (fun s it=>s.app it.o.dst it.res) s
theorem trace_text {X:Cfg}{ops:Array Oper}{Q:Exit→Act→World→Prop}:∀(its:List It) (s:FS) (i:Nat) (a:Act) (w:World),TraceOK X ops s i its→Real X s a w→
 (∀a' w',Real X (runS s its) a' w'→Q .normal a' w')→wpOps X.P ops Q (List.range' i its.length) a w
 |[],_,_,a,w,_,hr,hQ=>hQ a w hr
 |it::its,s,i,a,w,⟨hi,hit,ht⟩,hr,hQ=>by
  rw[List.length_cons,List.range'_succ,wpOps_cons]
  exact it_run hi hit (fun _ _=>rfl) (fun _ _=>rfl) hr fun v w' hr'=>trace_text its _ _ _ _ ht hr' hQ
theorem trace_at {X:Cfg}{ops:Array Oper}:∀(its:List It) (s:FS) (i:Nat),TraceOK X ops s i its→i+its.length=ops.size∧∀j it,its[j]? =some it→ops[i+j]? =some it.o∧ItOK X ops (runS s (its.take j)) it
 |[],_,_,h=>⟨by simpa[TraceOK]using h,fun j it h=>by simp at h⟩
 |it::its,s,i,⟨h1,h2,h3⟩=>by
  obtain⟨ih1,ih2⟩:=trace_at its _ _ h3
  refine⟨by simp only[List.length_cons];omega,fun j x hj=>?_⟩
  cases j with
  |zero=>
   simp at hj
   subst hj
   exact⟨h1,h2⟩
  |succ j=>
   have:=ih2 j x (by simpa using hj)
   refine⟨by rw[show i+(j+1)=i+1+j by omega];exact this.1,this.2⟩
def ancRow (l:List Nat)(es:List Edge):Nat:=es.foldl (fun s e=>if Region.binds .any e then s|||2 ^ e.on|||l.getD e.on 0 else s) 0
def ancL (ops:Array Oper):Nat→List Nat
 |0=>[]
 |n+1=>let l:=ancL ops n;l++[ancRow l (((ops[n]?).map (·.after.toList)).getD [])]
def Closed (ops:Array Oper)(L:Nat→Bool):Prop:=∀j o,ops[j]? =some o→L j=true→∀e∈o.after.toList,Region.binds .any e=true→L e.on=true
theorem ancRow_bit (l:List Nat)(i:Nat):∀(es:List Edge) (s:Nat),(es.foldl (fun s e=>if Region.binds .any e then s|||2 ^ e.on|||l.getD e.on 0 else s) s).testBit i=true→
 s.testBit i=true∨∃e∈es,Region.binds .any e=true∧(e.on=i∨(l.getD e.on 0).testBit i=true)
 |[],s,h=> .inl h
 |e::es,s,h=>by
  rw[List.foldl_cons]at h
  rcases ancRow_bit l i es _ h with h|⟨e',h1,h2⟩
  ·by_cases hb:Region.binds .any e=true
   ·rw[if_pos hb,Nat.testBit_or,Nat.testBit_or,Nat.testBit_two_pow]at h
    simp only[Bool.or_eq_true,decide_eq_true_eq]at h
    rcases h with (h|h)|h
    ·exact .inl h
    ·exact .inr ⟨e,by simp,hb,.inl h⟩
    ·exact .inr ⟨e,by simp,hb,.inr h⟩
   ·rw[if_neg hb]at h
    exact .inl h
  ·exact .inr ⟨e',List.mem_cons_of_mem _ h1,h2⟩
theorem ancL_length (ops:Array Oper):∀n,(ancL ops n).length=n
 |0=>rfl
 |n+1=>by simp[ancL,ancL_length ops n]
theorem anc_listed {ops:Array Oper}{L:Nat→Bool}(hc:Closed ops L):∀n j i,((ancL ops n).getD j 0).testBit i=true→L j=true→L i=true
 |0,j,i,h,_=>by simp[ancL]at h
 |n+1,j,i,h,hj=>by
  have hlen:=ancL_length ops n
  simp only[ancL,List.getD_eq_getElem?_getD,List.getElem?_append]at h
  split at h
  ·exact anc_listed hc n j i (by simpa[List.getD_eq_getElem?_getD]using h) hj
  ·rename_i hge
   rcases Nat.lt_or_ge n j with hnj|hnj
   ·rw[hlen]at h
    rw[show ([ancRow (ancL ops n) (((ops[n]?).map (·.after.toList)).getD [])]:List Nat)[j - n]? =none by simp;omega]at h
    simp at h
   ·obtain rfl:j=n:=by omega
    rw[hlen,Nat.sub_self]at h
    simp only[List.getElem?_cons_zero,Option.getD_some]at h
    unfold ancRow at h
    cases ho:ops[j]? with
    |none=>simp[ho]at h
    |some o=>
     rw[ho]at h
     rcases ancRow_bit _ _ _ _ h with h|⟨e,h1,h2,h3⟩
     ·simp at h
     ·have he:=hc j o ho hj e (by simpa using h1) h2
      rcases h3 with h3|h3
      ·rw[←h3];exact he
      ·exact anc_listed hc j e.on i (by simpa[List.getD_eq_getElem?_getD]using h3) he
def noConf (ops:Array Oper)(x y:Oper)(kx ky tx ty:List Nat):Bool:=x.apart ops y&&kx.all (fun k=>!ty.contains k)&&ky.all (fun k=>!tx.contains k)
def indepB (ops:Array Oper)(sm:List (List Nat × List Nat)):Bool:=
 let l:=ancL ops ops.size
 (List.range ops.size).all fun j=>(List.range j).all fun i=>(l.getD j 0).testBit i||
  (match ops[i]?,ops[j]? with
   |some x,some y=>noConf ops x y (sm.getD i ([],[])).1 (sm.getD j ([],[])).1 (sm.getD i ([],[])).2 (sm.getD j ([],[])).2
   |_,_=>false)
def apI (its:List It)(s:FS)(i:Nat):FS:=match its[i]? with|some it=>s.app it.o.dst it.res|none=>s
def runL (s:FS)(its:List It)(L:Nat→Bool):FS:=((List.range its.length).filter L).foldl (apI its) s
def writesT (its:List It)(t:Nat)(i:Nat):Bool:=match its[i]? with|some it=>it.o.dst==some t|none=>false
def writesK (its:List It)(k:Nat)(i:Nat):Bool:=match its[i]? with|some it=>(it.res.eff.map (·.1)).contains k|none=>false
theorem effH_ne {k:Nat}{h:Nat→Chunk}:∀{l:List (Nat × Chunk)},(l.map (·.1)).contains k=false→effH l h k=h k
 |[],_=>rfl
 |(k',c)::l,hn=>by
  simp only[List.map_cons,List.contains_cons,Bool.or_eq_false_iff,beq_eq_false_iff_ne,ne_eq]at hn
  simp only[effH,if_neg hn.1]
  exact effH_ne hn.2
theorem effH_in {k:Nat}{h h':Nat→Chunk}:∀{l:List (Nat × Chunk)},(l.map (·.1)).contains k=true→effH l h k=effH l h' k
 |[],hn=>by simp at hn
 |(k',c)::l,hn=>by
  simp only[effH]
  split
  ·rfl
  ·rename_i hne
   refine effH_in ?_
   simpa[hne]using hn
theorem app_env {s:FS}{dst:Option Nat}{r:Res}{t:Nat}:(s.app dst r).env t=if dst=some t then r.pv else s.env t:=by
 cases dst with
 |none=>simp[FS.app,FS.put]
 |some d=>
  simp only[FS.app,FS.put,Option.some.injEq]
  by_cases h:t=d
  ·subst h;simp
  ·rw[if_neg h,if_neg (fun e=>h e.symm)]
theorem app_heap {s:FS}{dst:Option Nat}{r:Res}{k:Nat}:(s.app dst r).heap k=effH r.eff s.heap k:=by
 cases dst<;>rfl
theorem fold_env (its:List It)(t:Nat):∀(l:List Nat) (s:FS),(l.foldl (apI its) s).env t=((l.filter (writesT its t)).foldl (apI its) s).env t:=by
 have key:∀(l:List Nat) (s s':FS),s.env t=s'.env t→(l.foldl (apI its) s).env t=((l.filter (writesT its t)).foldl (apI its) s').env t:=by
  intro l
  induction l with
  |nil=>intro s s' h;exact h
  |cons i l ih=>
   intro s s' h
   rw[List.foldl_cons,List.filter_cons]
   by_cases hw:writesT its t i=true
   ·rw[if_pos hw,List.foldl_cons]
    refine ih _ _ ?_
    unfold apI
    unfold writesT at hw
    split<;>rename_i hi<;>rw[hi]at hw
    ·rw[app_env,app_env,if_pos (by simpa using hw),if_pos (by simpa using hw)]
    ·cases hw
   ·rw[if_neg hw]
    refine ih _ _ ?_
    unfold apI
    unfold writesT at hw
    split<;>rename_i hi<;>rw[hi]at hw
    ·rw[app_env,if_neg (by simpa using hw),h]
    ·exact h
 intro l s
 exact key l s s rfl
theorem fold_heap (its:List It)(k:Nat):∀(l:List Nat) (s:FS),(l.foldl (apI its) s).heap k=((l.filter (writesK its k)).foldl (apI its) s).heap k:=by
 have key:∀(l:List Nat) (s s':FS),s.heap k=s'.heap k→(l.foldl (apI its) s).heap k=((l.filter (writesK its k)).foldl (apI its) s').heap k:=by
  intro l
  induction l with
  |nil=>intro s s' h;exact h
  |cons i l ih=>
   intro s s' h
   rw[List.foldl_cons,List.filter_cons]
   by_cases hw:writesK its k i=true
   ·rw[if_pos hw,List.foldl_cons]
    refine ih _ _ ?_
    unfold apI
    unfold writesK at hw
    split<;>rename_i hi<;>rw[hi]at hw
    ·rw[app_heap,app_heap,effH_in hw]
    ·cases hw
   ·rw[if_neg hw]
    refine ih _ _ ?_
    unfold apI
    unfold writesK at hw
    split<;>rename_i hi<;>rw[hi]at hw
    ·rw[app_heap,effH_ne (by simpa using hw),h]
    ·exact h
 intro l s
 exact key l s s rfl
theorem run_take (s:FS)(its:List It):∀i,i≤its.length→runS s (its.take i)=(List.range i).foldl (apI its) s
 |0,_=>rfl
 |i+1,h=>by
  rw[List.range_succ,List.foldl_append,←run_take s its i (by omega)]
  have hi:its[i]? =some its[i]:=List.getElem?_eq_getElem (by omega)
  simp only[List.foldl_cons,List.foldl_nil,apI,hi,runS]
  rw[List.take_succ_eq_append_getElem (by omega),List.foldl_append]
  rfl
theorem filter_cut {n i:Nat}(hi:i≤n){p q:Nat→Bool}(h1:∀j,j < i→p j=q j)(h2:∀j,i≤j→j < n→p j=false):(List.range n).filter p=(List.range i).filter q:=by
 obtain⟨m,rfl⟩:∃m,n=i+m:=⟨n - i,by omega⟩
 rw[List.range_add,List.filter_append]
 have e1:(List.range i).filter p=(List.range i).filter q:=List.filter_congr fun j hj=>h1 j (List.mem_range.1 hj)
 have e2:(List.map (fun x=>i+x) (List.range m)).filter p=[]:=by
  rw[List.filter_eq_nil_iff]
  intro j hj
  obtain⟨x,hx,rfl⟩:=List.mem_map.1 hj
  have:=List.mem_range.1 hx
  rw[h2 _ (by omega) (by omega)]
  simp
 rw[e1,e2,List.append_nil]
def smOf (its:List It):List (List Nat × List Nat):=its.map fun it=>(it.res.eff.map (·.1),it.res.touch)
def edgesB (ops:Array Oper):Bool:=(List.range ops.size).all fun i=>((ops[i]?).map fun o=>o.after.toList.all fun e=>!Region.binds .any e||decide (e.on < i)).getD true
section
variable {X:Cfg}{ops:Array Oper}{s:FS}{its:List It}
structure Plan (X:Cfg)(ops:Array Oper)(s:FS)(its:List It):Prop where
 len:its.length=ops.size
 at_:∀(j:Nat) (it:It),its[j]? =some it→ops[j]? =some it.o∧ItOK X ops (runS s (its.take j)) it
 ind:∀(i j:Nat) (x y:It),i < j→its[i]? =some x→its[j]? =some y→((ancL ops ops.size).getD j 0).testBit i=true∨noConf ops x.o y.o (x.res.eff.map (·.1)) (y.res.eff.map (·.1)) x.res.touch y.res.touch=true
 sub:∀(j:Nat) (it:It),its[j]? =some it→∀kc∈it.res.eff,kc.1∈it.res.touch
 back:∀(i:Nat) (o:Oper),ops[i]? =some o→∀e∈o.after.toList,Region.binds .any e=true→e.on < i
theorem plan_of (ht:TraceOK X ops s 0 its)(hi:indepB ops (smOf its)=true)(hb:edgesB ops=true):Plan X ops s its:=by
 obtain⟨h1,h2⟩:=trace_at its s 0 ht
 simp only[Nat.zero_add]at h1 h2
 refine⟨h1,h2,fun i j x y hij hx hy=>?_,fun j it hj kc hkc=>?_,fun i o ho e he hbi=>?_⟩
 ·have hjn:j < ops.size:=by rw[←h1];exact(List.getElem?_eq_some_iff.1 hy).1
  unfold indepB at hi
  simp only[List.all_eq_true,List.mem_range]at hi
  have:=hi j hjn i hij
  rw[(h2 i x hx).1,(h2 j y hy).1]at this
  simp only[smOf,List.getD_eq_getElem?_getD,List.getElem?_map,hx,hy,Option.map_some,Option.getD_some,Bool.or_eq_true]at this
  simpa[List.getD_eq_getElem?_getD]using this
 ·obtain⟨_,h3,h4,h5⟩:=h2 j it hj
  cases hw:it.want with
  |true=>exact(h4 hw).2.1 kc hkc
  |false=>rw[(h5 hw).1]at hkc;simp[undefR]at hkc
 ·unfold edgesB at hb
  simp only[List.all_eq_true,List.mem_range]at hb
  have:=hb i (Array.getElem?_eq_some_iff.1 ho).1
  rw[ho]at this
  simp only[Option.map_some,Option.getD_some,List.all_eq_true]at this
  have:=this e he
  simpa[hbi]using this
def Lof (listed:Array Bool):Nat→Bool:=fun j=>listed.getD j false
theorem noConf_spec {x y:Oper}{kx ky tx ty:List Nat}(h:noConf ops x y kx ky tx ty=true):x.apart ops y=true∧(∀k∈kx,k∉ty)∧(∀k∈ky,k∉tx):=by
 simp only[noConf,Bool.and_eq_true,List.all_eq_true,Bool.not_eq_true',List.contains_eq_mem,decide_eq_false_iff_not]at h
 exact⟨h.1.1,h.1.2,h.2⟩
theorem closed_more {L:Nat→Bool}(hc:Closed ops L){i:Nat}{o:Oper}(ho:ops[i]? =some o)(hr:∀e∈o.after,Region.binds .any e=true→L e.on=true):Closed ops (fun j=>L j||j==i):=by
 intro j o' ho' hj e he hb
 simp only[Bool.or_eq_true,beq_iff_eq]at hj ⊢
 rcases hj with hj|hj
 ·exact .inl (hc j o' ho' hj e he hb)
 ·subst hj
  rw[ho]at ho'
  cases ho'
  exact .inl (hr e (by simpa using he) hb)
theorem ahead_listed {L:Nat→Bool}(hc:Closed ops L){i j:Nat}{o:Oper}(ho:ops[i]? =some o)(hr:∀e∈o.after,Region.binds .any e=true→L e.on=true)
 (hij:j≠i) (hb:((ancL ops ops.size).getD i 0).testBit j=true):L j=true:=by
 have:=anc_listed (closed_more hc ho hr) ops.size i j hb (by simp)
 simpa[hij]using this
variable (hp:Plan X ops s its)
include hp
theorem agree_env {L:Nat→Bool}(hc:Closed ops L){i:Nat}{it:It}(hi:its[i]? =some it)(hL:L i=false)(hr:∀e∈it.o.after,Region.binds .any e=true→L e.on=true)(t:Nat)(ht:t∈it.o.looksAt ops):
 (runL s its L).env t=(runS s (its.take i)).env t:=by
 have hin:i < its.length:=(List.getElem?_eq_some_iff.1 hi).1
 have hoi:=(hp.at_ i it hi).1
 unfold runL
 rw[fold_env its t ((List.range its.length).filter L),run_take s its i (by omega),fold_env its t (List.range i),List.filter_filter]
 rw[filter_cut (i:=i) (q:=writesT its t) (by omega)]
 ·intro j hj
  by_cases hw:writesT its t j=true
  ·have hLj:L j=true:=by
    unfold writesT at hw
    split at hw
    ·rename_i x hx
     rcases hp.ind j i x it hj hx hi with hb|hn
     ·exact ahead_listed hc hoi hr (by omega) hb
     ·exact absurd ht ((Oper.apart_spec (noConf_spec hn).1).1 t (by simpa using hw))
    ·cases hw
   simp[hw,hLj]
  ·simp at hw
   simp[hw]
 ·intro j hj hjn
  by_cases hw:writesT its t j=true
  ·rcases Nat.lt_or_ge i j with hij|hij
   ·cases hLj:L j with
    |false=>simp
    |true=>
     unfold writesT at hw
     split at hw
     ·rename_i x hx
      rcases hp.ind i j it x hij hi hx with hb|hn
      ·rw[anc_listed hc ops.size j i hb hLj]at hL;cases hL
      ·exact absurd ht ((Oper.apart_spec (noConf_spec hn).1).2.2 t (by simpa using hw))
     ·cases hw
   ·obtain rfl:j=i:=by omega
    simp[hL]
  ·simp at hw
   simp[hw]
theorem agree_heap {L:Nat→Bool}(hc:Closed ops L){i:Nat}{it:It}(hi:its[i]? =some it)(hL:L i=false)(hr:∀e∈it.o.after,Region.binds .any e=true→L e.on=true)(k:Nat)(ht:k∈it.res.touch):
 (runL s its L).heap k=(runS s (its.take i)).heap k:=by
 have hin:i < its.length:=(List.getElem?_eq_some_iff.1 hi).1
 have hoi:=(hp.at_ i it hi).1
 unfold runL
 rw[fold_heap its k ((List.range its.length).filter L),run_take s its i (by omega),fold_heap its k (List.range i),List.filter_filter]
 rw[filter_cut (i:=i) (q:=writesK its k) (by omega)]
 ·intro j hj
  by_cases hw:writesK its k j=true
  ·have hLj:L j=true:=by
    unfold writesK at hw
    split at hw
    ·rename_i x hx
     rcases hp.ind j i x it hj hx hi with hb|hn
     ·exact ahead_listed hc hoi hr (by omega) hb
     ·exact absurd ht ((noConf_spec hn).2.1 k (by simpa using hw))
    ·cases hw
   simp[hw,hLj]
  ·simp at hw
   simp[hw]
 ·intro j hj hjn
  by_cases hw:writesK its k j=true
  ·rcases Nat.lt_or_ge i j with hij|hij
   ·cases hLj:L j with
    |false=>simp
    |true=>
     unfold writesK at hw
     split at hw
     ·rename_i x hx
      rcases hp.ind i j it x hij hi hx with hb|hn
      ·rw[anc_listed hc ops.size j i hb hLj]at hL;cases hL
      ·exact absurd ht ((noConf_spec hn).2.2 k (by simpa using hw))
     ·cases hw
   ·obtain rfl:j=i:=by omega
    simp[hL]
  ·simp at hw
   simp[hw]
theorem run_more {L:Nat→Bool}(hc:Closed ops L){i:Nat}{it:It}(hi:its[i]? =some it)(hL:L i=false):
 runL s its (fun j=>L j||j==i)=(runL s its L).app it.o.dst it.res:=by
 have hin:i < its.length:=(List.getElem?_eq_some_iff.1 hi).1
 have late:∀(j:Nat) (x:It),i < j→its[j]? =some x→L j=true→noConf ops it.o x.o (it.res.eff.map (·.1)) (x.res.eff.map (·.1)) it.res.touch x.res.touch=true:=by
  intro j x hij hx hLj
  rcases hp.ind i j it x hij hi hx with hb|hn
  ·rw[anc_listed hc ops.size j i hb hLj]at hL;cases hL
  ·exact hn
 have henv:∀t,(runL s its (fun j=>L j||j==i)).env t=((runL s its L).app it.o.dst it.res).env t:=by
  intro t
  rw[app_env]
  unfold runL
  rw[fold_env,List.filter_filter]
  by_cases hw:it.o.dst=some t
  ·rw[if_pos hw]
   rw[filter_cut (i:=i+1) (q:=fun j=>writesT its t j&&(L j||j==i)) (by omega) (fun _ _=>rfl),List.range_succ,List.filter_append,List.foldl_append]
   ·have:(fun j=>writesT its t j&&(L j||j==i)) i=true:=by simp[writesT,hi,hw]
    rw[List.filter_cons,if_pos this,List.filter_nil,List.foldl_cons,List.foldl_nil]
    simp only[apI,hi]
    rw[app_env,if_pos hw]
   ·intro j hj hjn
    cases hLj:L j with
    |false=>
     have hji:(j==i)=false:=by rw[beq_eq_false_iff_ne];omega
     simp only[hji,hLj,Bool.or_self,Bool.and_false]
    |true=>
     cases hx:its[j]? with
     |none=>simp[writesT,hx]
     |some x=>
      have h2:=(Oper.apart_spec (noConf_spec (late j x (by omega) hx hLj)).1).2.1 t hw
      simp[writesT,hx,h2]
  ·rw[if_neg hw,fold_env its t ((List.range its.length).filter L),List.filter_filter]
   rw[List.filter_congr (p:=fun j=>writesT its t j&&(L j||j==i)) (q:=fun j=>writesT its t j&&L j)]
   intro j _
   by_cases hji:j=i
   ·subst hji
    simp[writesT,hi,hw]
   ·have hji2:(j==i)=false:=by rw[beq_eq_false_iff_ne];exact hji
    simp only[hji2,Bool.or_false]
 have hheap:∀k,(runL s its (fun j=>L j||j==i)).heap k=((runL s its L).app it.o.dst it.res).heap k:=by
  intro k
  rw[app_heap]
  unfold runL
  rw[fold_heap,List.filter_filter]
  by_cases hw:(it.res.eff.map (·.1)).contains k=true
  ·rw[filter_cut (i:=i+1) (q:=fun j=>writesK its k j&&(L j||j==i)) (by omega) (fun _ _=>rfl),List.range_succ,List.filter_append,List.foldl_append]
   ·have:(fun j=>writesK its k j&&(L j||j==i)) i=true:=by
     simp only[writesK,hi,hw]
     simp
    rw[List.filter_cons,if_pos this,List.filter_nil,List.foldl_cons,List.foldl_nil]
    simp only[apI,hi]
    rw[app_heap]
    exact effH_in hw
   ·intro j hj hjn
    cases hLj:L j with
    |false=>
     have hji:(j==i)=false:=by rw[beq_eq_false_iff_ne];omega
     simp only[hji,hLj,Bool.or_self,Bool.and_false]
    |true=>
     cases hx:its[j]? with
     |none=>simp[writesK,hx]
     |some x=>
      have h2:=(noConf_spec (late j x (by omega) hx hLj)).2.1 k (by simpa using hw)
      have h3:(x.res.eff.map (·.1)).contains k=false:=by
       cases hcx:(x.res.eff.map (·.1)).contains k with
       |false=>rfl
       |true=>
        obtain⟨kc,h4,h5⟩:=List.mem_map.1 (by simpa using hcx:k∈x.res.eff.map (·.1))
        exact absurd (h5 ▸ hp.sub j x hx kc h4) h2
      simp only[writesK,hx,h3,Bool.false_and]
  ·rw[effH_ne (by simpa using hw),fold_heap its k ((List.range its.length).filter L),List.filter_filter]
   rw[List.filter_congr (p:=fun j=>writesK its k j&&(L j||j==i)) (q:=fun j=>writesK its k j&&L j)]
   intro j _
   by_cases hji:j=i
   ·subst hji
    have:writesK its k j=false:=by simp only[writesK,hi];simpa using hw
    simp[this]
   ·have hji2:(j==i)=false:=by rw[beq_eq_false_iff_ne];exact hji
    simp only[hji2,Bool.or_false]
 generalize e1:runL s its (fun j=>L j||j==i)=x at*
 generalize e2:(runL s its L).app it.o.dst it.res=y at*
 cases x;cases y
 simp only[FS.mk.injEq]
 exact⟨funext henv,funext hheap⟩
theorem all_listed {listed:Array Bool}(hs:listed.size=ops.size)(hr:Region.ready .any ops listed=[]):∀j,j < ops.size→Lof listed j=true:=by
 intro j
 induction j using Nat.strongRecOn with
 |_ j ih=>
  intro hj
  cases hl:Lof listed j with
  |true=>rfl
  |false=>
   obtain⟨o,ho⟩:∃o,ops[j]? =some o:=⟨ops[j],Array.getElem?_eq_getElem hj⟩
   have:j∈Region.ready .any ops listed:=by
    rw[mem_ready]
    refine⟨?_,o,ho,fun e he hb=>?_⟩
    ·unfold Lof at hl
     rw[Array.getD_eq_getD_getElem?,Array.getElem?_eq_getElem (by omega)]at hl ⊢
     simpa using hl
    ·have hlt:=hp.back j o ho e (by simpa using he) hb
     exact ih e.on hlt (by omega)
   rw[hr]at this
   cases this
theorem draw_any {Q:Exit→Act→World→Prop}(hQ:∀a' w',Real X (runS s its) a' w'→Q .normal a' w'):∀(fuel:Nat) (listed:Array Bool) (a:Act) (w:World),listed.size=ops.size→Closed ops (Lof listed)→
 Real X (runL s its (Lof listed)) a w→((List.range ops.size).filter fun j=>!Lof listed j).length≤fuel→wpAny X.P .any ops Q fuel listed a w:=by
 have fin:∀(listed:Array Bool) (a:Act) (w:World),listed.size=ops.size→Real X (runL s its (Lof listed)) a w→Region.ready .any ops listed=[]→Q .normal a w:=by
  intro listed a w hs hr he
  have hall:=all_listed hp hs he
  have:runL s its (Lof listed)=runS s its:=by
   have h1:=run_take s its its.length (Nat.le_refl _)
   rw[List.take_length]at h1
   rw[h1]
   unfold runL
   congr 1
   rw[List.filter_eq_self]
   intro j hj
   exact hall j (by rw[←hp.len];exact List.mem_range.1 hj)
  rw[this]at hr
  exact hQ a w hr
 intro fuel
 induction fuel with
 |zero=>
  intro listed a w hs hc hr hn
  have hall:∀j,j < ops.size→Lof listed j=true:=by
   intro j hj
   have h0:=List.eq_nil_of_length_eq_zero (Nat.le_zero.1 hn)
   rw[List.filter_eq_nil_iff]at h0
   have:=h0 j (List.mem_range.2 hj)
   simpa using this
  have he:Region.ready .any ops listed=[]:=by
   rw[List.eq_nil_iff_forall_not_mem]
   intro j hj
   rw[mem_ready]at hj
   obtain⟨h1,o,ho,_⟩:=hj
   have hlt:=(Array.getElem?_eq_some_iff.1 ho).1
   have:=hall j hlt
   unfold Lof at this
   rw[Array.getD_eq_getD_getElem?,Array.getElem?_eq_getElem (by omega)]at this h1
   simp at this h1
   rw[this]at h1
   cases h1
  exact⟨he,fin listed a w hs hr he⟩
 |succ fuel ih=>
  intro listed a w hs hc hr hn
  refine⟨fin listed a w hs hr,fun i hi=>?_⟩
  rw[mem_ready]at hi
  obtain⟨h1,o,ho,hall⟩:=hi
  have hlt:=(Array.getElem?_eq_some_iff.1 ho).1
  have hL:Lof listed i=false:=by
   unfold Lof
   rw[Array.getD_eq_getD_getElem?,Array.getElem?_eq_getElem (by omega)]at h1 ⊢
   simpa using h1
  obtain⟨it,hit⟩:∃it,its[i]? =some it:=⟨its[i]'(by rw[hp.len];exact hlt),List.getElem?_eq_getElem _⟩
  obtain⟨hoi,hok⟩:=hp.at_ i it hit
  rw[ho]at hoi
  cases hoi
  have hLn:Lof (listed.setIfInBounds i true)=fun j=>Lof listed j||j==i:=by
   funext j
   unfold Lof
   by_cases hji:j=i
   ·subst hji
    simp[Array.getD_eq_getD_getElem?,hs,hlt]
   ·rw[getD_set_ne false (fun e=>hji e.symm)]
    simp[hji]
  refine it_run ho hok (agree_env hp hc hit hL hall) (agree_heap hp hc hit hL hall) hr fun v w' hr'=>?_
  refine ih _ _ _ (by simpa using hs) ?_ ?_ ?_
  ·rw[hLn];exact closed_more hc ho hall
  ·rw[hLn,run_more hp hc hit hL];exact hr'
  ·rw[hLn]
   have hsplit:((List.range ops.size).filter fun j=>!(Lof listed j||j==i)).length < ((List.range ops.size).filter fun j=>!Lof listed j).length:=by
    have hsub:((List.range ops.size).filter fun j=>!(Lof listed j||j==i))=((List.range ops.size).filter fun j=>!Lof listed j).filter (fun j=>!(j==i)):=by
     rw[List.filter_filter]
     exact List.filter_congr fun j _=>by cases Lof listed j<;>simp
    rw[hsub]
    refine List.length_filter_lt_length_iff_exists.2 ⟨i,?_,by simp⟩
    rw[List.mem_filter]
    exact⟨List.mem_range.2 hlt,by simp[hL]⟩
   show ((List.range ops.size).filter fun j=>!(Lof listed j||j==i)).length≤fuel
   omega
end
theorem lof_false (n j:Nat):Lof (Array.replicate n false) j=false:=by
 unfold Lof
 rw[Array.getD_eq_getD_getElem?,Array.getElem?_replicate]
 split<;>rfl
theorem region_real {X:Cfg}{ops:Array Oper}{s:FS}{its:List It}{Q:Exit→Act→World→Prop}{a:Act}{w:World}(hm:X.P.follows .mixedOrders=true)(id:Nat)(draw:Bool)(ht:TraceOK X ops s 0 its)(hd:draw=true→indepB ops (smOf its)=true∧edgesB ops=true)
 (hr:Real X s a w) (hQ:∀a' w',Real X (runS s its) a' w'→Q .normal a' w'):(Code.region id ops draw).wp X.P Q a w:=by
 cases draw with
 |false=>
  refine wp_region ?_
  have h1:=(trace_at its s 0 ht).1
  have:=trace_text its s 0 a w ht hr hQ
  rw[List.range_eq_range',←h1,Nat.zero_add]
  exact this
 |true=>
  obtain⟨hi,hb⟩:=hd rfl
  refine wp_region_any hm (draw_any (plan_of ht hi hb) hQ _ _ _ _ (by simp) ?_ ?_ ?_)
  ·intro j o ho hj
   rw[lof_false]at hj
   cases hj
  ·have:runL s its (Lof (Array.replicate ops.size false))=s:=by
    unfold runL
    have:(List.range its.length).filter (Lof (Array.replicate ops.size false))=[]:=by
     rw[List.filter_eq_nil_iff]
     intro j _
     simp[lof_false]
    rw[this]
    rfl
   rw[this]
   obtain⟨c,hc⟩:=hr
   refine⟨c,hc.size,hc.defers,⟨hc.ext.os,hc.ext.tape,hc.ext.output,hc.ext.size,hc.ext.block⟩,hc.inv,hc.fresh,hc.mu,hc.new,hc.apart,fun t=>?_,fun k=>?_,hc.lent⟩
   ·have hk:Keep c.M w c.M {w with drawn:=w.drawn+1}:=⟨Nat.le_refl _,fun _ _ _=>rfl,fun _ _ h=>h⟩
    exact(hc.env t).keep c.le_refl hk
   ·have hk:Keep c.M w c.M {w with drawn:=w.drawn+1}:=⟨Nat.le_refl _,fun _ _ _=>rfl,fun _ _ h=>h⟩
    cases hck:s.heap k with
    |none=>have:=hc.chunk k;rw[hck]at this;cases this with|none h1 h2=>exact .none h1 h2
    |gone=>exact .gone
    |box T cells=>have:=hc.chunk k;rw[hck]at this;cases this with|box _ _ b vs hb hh hr h1=>exact .box T cells b vs hb hh (hr.keep c.le_refl hk) h1
    |row E sz g rows=>have:=hc.chunk k;rw[hck]at this;cases this with|row _ _ _ _ v xs hv hown hr hsz h1 hg=>exact .row E sz g rows v xs hv (hown.same fun _ _=>rfl) (hr.keep c.le_refl hk) hsz h1 hg
    |mp nB sB ents=>have:=hc.chunk k;rw[hck]at this;cases this with|mp _ _ _ b hb hh hn=>exact .mp nB sB ents b hb hh hn
    |it nB sB ents seen=>have:=hc.chunk k;rw[hck]at this;cases this with|it _ _ _ _ b bm hb hh hM hm=>exact .it nB sB ents seen b bm hb hh hM hm
  ·refine Nat.le_trans (List.length_filter_le _ _) ?_
   simp
theorem ChunkOK.keep {k:Nat}{c c':Cx}{w w':World}{ch:Chunk}(h:ChunkOK c w k ch)(hle:c.le c')(hk:Keep c.M w c'.M w')(hb:∀b,c.block k ch=some b→w'.heap[b]? =w.heap[b]?)
 (hbl:c'.bl k=c.bl k) (hov:c'.ov k=c.ov k):ChunkOK c' w' k ch:=by
 cases h with
 |none h1 h2=>exact .none (by rw[hbl];exact h1) (fun g=>by rw[hov];exact h2 g)
 |gone=>exact .gone
 |box T cells b vs hbk hh hr h1=>exact .box T cells b vs (by rw[hbl];exact hbk) (by rw[hb b hbk];exact hh) (hr.keep hle hk) h1
 |row E sz g rows v xs hv hown hr hsz h1 hg=>
  exact .row E sz g rows v xs (by rw[hov];exact hv) (hown.same fun b e=>hb b (by simp[Cx.block,hv,e])) (hr.keep hle hk) hsz h1 (by rw[hov];exact hg)
 |mp nB sB ents b hbk hh hn=>exact .mp nB sB ents b (by rw[hbl];exact hbk) (by rw[hb b hbk];exact hh) hn
 |it nB sB ents seen b bm hbk hh hM hm=>
  have hlt:bm < w.heap.size:=(Array.getElem?_eq_some_iff.1 hm).1
  exact .it nB sB ents seen b bm (by rw[hbl];exact hbk) (by rw[hb b hbk];exact hh) (fun h=>hM (hk.mu _ hlt h)) (by rw[hk.block _ hlt hM];exact hm)
theorem RealC.lt {X:Cfg}{s:FS}{a:Act}{w:World}{c:Cx}(h:RealC X s a w c){b:Nat}(hb:c.M b):b < w.heap.size:=by
 rcases(h.mu b).1 hb with h0|⟨k,hk⟩
 ·exact Nat.lt_of_lt_of_le (h.fresh b h0).1 h.ext.size
 ·exact(h.new k b hk).2
theorem RealC.grow {X:Cfg}{s:FS}{a:Act}{w w':World}{c:Cx}(h:RealC X s a w c)(hx:Ext w w'):RealC X s a w' c:=by
 have hk:Keep c.M w c.M w':=Keep.ext hx fun b hb=>h.lt hb
 exact⟨h.size,h.defers,h.ext.trans (.of_ext hx),h.inv,h.fresh,h.mu,fun k b hb=>⟨(h.new k b hb).1,Nat.lt_of_lt_of_le (h.new k b hb).2 hx.size⟩,h.apart,fun t=>(h.env t).keep c.le_refl hk,
  fun k=>(h.chunk k).keep c.le_refl hk (fun b hb=>hx.block b (h.new k b hb).2) rfl rfl,h.lent⟩
theorem alloc_ext (w:World)(o:Obj):Ext w (w.alloc o):=(Below.refl _ _).alloc (Nat.le_refl _) o
theorem alloc_at (w:World)(o:Obj):(w.alloc o).heap[w.heap.size]? =some o:=by
 show (w.heap.push o)[w.heap.size]? =some o
 simp
theorem size_alloc (w:World)(o:Obj):(w.alloc o).heap.size=w.heap.size+1:=by
 show (w.heap.push o).size=_
 simp
theorem effH1 (k:Nat)(c:Chunk)(h:Nat→Chunk):effH [(k,c)] h=fun k'=>if k'=k then c else h k':=rfl
theorem RealC.new_chunk {X:Cfg}{s:FS}{a:Act}{w w':World}{c c':Cx}(h:RealC X s a w c){k:Nat}{ch:Chunk}(hk:s.heap k= .none)(hkm:¬k < X.m)(hx:Ext w w')(hle:c.le c')(hbl:∀k',k'≠k→c'.bl k'=c.bl k')(hov:∀k',k'≠k→c'.ov k'=c.ov k')
 (hM:∀b,c'.M b↔c.M b∨c'.block k ch=some b) (hfresh:∀b,c'.block k ch=some b→w.heap.size≤b∧b < w'.heap.size)
 (hch:Keep c.M w c'.M w'→ChunkOK c' w' k ch):RealC X {s with heap:=effH [(k,ch)] s.heap} a w' c':=by
 have hkp:Keep c.M w c'.M w':=⟨hx.size,fun b hb _=>hx.block b hb,fun b hb hm=>by
  rcases(hM b).1 hm with h1|h1
  ·exact h1
  ·have:=(hfresh b h1).1;omega⟩
 have hblk:∀k' ch',k'≠k→c'.block k' ch'=c.block k' ch':=by
  intro k' ch' hne
  cases ch'<;>simp[Cx.block,hbl k' hne,hov k' hne]
 have hat:∀k',effH [(k,ch)] s.heap k'=if k'=k then ch else s.heap k':=fun _=>rfl
 refine⟨h.size,h.defers,h.ext.trans (.of_ext hx),h.inv,h.fresh,fun b=>?_,fun k' b hb=>?_,fun k' k'' b hb hb'=>?_,fun t=>(h.env t).keep hle hkp,fun k'=>?_,fun k' hk'=>⟨(hbl k' (fun e=>hkm (e ▸ hk'))).trans (h.lent k' hk').1,fun g v hv=>hle.ov _ _ _ ((h.lent k' hk').2 g v hv)⟩⟩
 ·rw[hM b,h.mu b]
  constructor
  ·rintro ((h0|⟨k',h1⟩)|h1)
   ·exact .inl h0
   ·refine .inr ⟨k',?_⟩
    have hne:k'≠k:=fun e=>by subst e;rw[hk]at h1;simp[Cx.block]at h1
    show c'.block k' (effH [(k,ch)] s.heap k')=_
    rw[hat,if_neg hne,hblk k' _ hne];exact h1
   ·refine .inr ⟨k,?_⟩
    show c'.block k (effH [(k,ch)] s.heap k)=_
    rw[hat,if_pos rfl];exact h1
  ·rintro (h0|⟨k',h1⟩)
   ·exact .inl (.inl h0)
   ·simp only[hat]at h1
    by_cases hne:k'=k
    ·subst hne;rw[if_pos rfl]at h1;exact .inr h1
    ·rw[if_neg hne,hblk k' _ hne]at h1;exact .inl (.inr ⟨k',h1⟩)
 ·simp only[hat]at hb
  by_cases hne:k'=k
  ·subst hne;rw[if_pos rfl]at hb
   exact⟨.inr (Nat.le_trans h.ext.size (hfresh b hb).1),(hfresh b hb).2⟩
  ·rw[if_neg hne,hblk k' _ hne]at hb
   exact⟨(h.new k' b hb).1,Nat.lt_of_lt_of_le (h.new k' b hb).2 hx.size⟩
 ·simp only[hat]at hb hb'
  by_cases h1:k'=k
  ·by_cases h2:k''=k
   ·omega
   ·subst h1
    rw[if_pos rfl]at hb
    rw[if_neg h2,hblk k'' _ h2]at hb'
    have:=(hfresh b hb).1
    have:=(h.new k'' b hb').2
    omega
  ·by_cases h2:k''=k
   ·subst h2
    rw[if_pos rfl]at hb'
    rw[if_neg h1,hblk k' _ h1]at hb
    have:=(hfresh b hb').1
    have:=(h.new k' b hb).2
    omega
   ·rw[if_neg h1,hblk k' _ h1]at hb
    rw[if_neg h2,hblk k'' _ h2]at hb'
    exact h.apart k' k'' b hb hb'
 ·simp only[hat]
  by_cases hne:k'=k
  ·subst hne;rw[if_pos rfl];exact hch hkp
  ·rw[if_neg hne]
   exact(h.chunk k').keep hle hkp (fun b hb=>hx.block b (h.new k' b hb).2) (hbl k' hne) (hov k' hne)
theorem RealC.new_box {X:Cfg}{s:FS}{a:Act}{w:World}{c:Cx}(h:RealC X s a w c){k:Nat}(hk:s.heap k= .none)(hkm:¬k < X.m)(T:Nat)(cells:List PV)(vs:List Value)(hr:RepPs c w cells vs)(h1:∀d∈cells,d.one=true):
 ∃c',RealC X {s with heap:=effH [(k,.box T cells)] s.heap} a (w.alloc (.cells vs.toArray T)) c'∧RepP c' (w.alloc (.cells vs.toArray T)) (.ptr k 0) (.pointer (some ⟨w.heap.size,0,none⟩)):=by
 have hck:=h.chunk k
 rw[hk]at hck
 cases hck with
 |none hb0 ho0=>
  have hx:=alloc_ext w (.cells vs.toArray T)
  have hbk:(fun k'=>if k'=k then some w.heap.size else c.bl k') k=some w.heap.size:=if_pos rfl
  refine⟨{M:=fun b=>c.M b∨b=w.heap.size,bl:=fun k'=>if k'=k then some w.heap.size else c.bl k',ov:=c.ov},?_,.ptr k 0 _ hbk⟩
  have hle:c.le {M:=fun b=>c.M b∨b=w.heap.size,bl:=fun k'=>if k'=k then some w.heap.size else c.bl k',ov:=c.ov}:=
   ⟨fun k' b hb=>by
    have:k'≠k:=fun e=>by subst e;rw[hb0]at hb;cases hb
    show (if k'=k then some w.heap.size else c.bl k')=some b
    rw[if_neg this];exact hb,fun _ _ _ h=>h⟩
  refine h.new_chunk hk hkm hx hle (fun k' hne=>if_neg hne) (fun _ _=>rfl) (fun b=>?_) (fun b hb=>?_) (fun hkp=>?_)
  ·simp only[Cx.block,if_true,Option.some.injEq]
   exact⟨fun h=>h.imp id Eq.symm,fun h=>h.imp id Eq.symm⟩
  ·simp only[Cx.block,if_true,Option.some.injEq]at hb
   rw[size_alloc];omega
  ·exact .box T cells w.heap.size vs hbk (alloc_at w _) (hr.keep hle hkp) h1
theorem RealC.new_row {X:Cfg}{s:FS}{a:Act}{w w':World}{c:Cx}(h:RealC X s a w c){k:Nat}(hk:s.heap k= .none)(hkm:¬k < X.m)(E sz:Nat)(rows:List (List PV))(v:Value)(xs:List Value)(hx:Ext w w')
 (hown:OwnV w' E sz v rows.length xs) (hnew:∀b,ownB v=some b→w.heap.size≤b) (hr:RepPs c w rows.flatten xs) (hsz:∀r∈rows,r.length=sz) (h1:∀r∈rows,∀d∈r,d.one=true):
 ∃c',RealC X {s with heap:=effH [(k,.row E sz 0 rows)] s.heap} a w' c'∧RepP c' w' (.own k 0) v:=by
 have hck:=h.chunk k
 rw[hk]at hck
 have hv1:v.oneCell'=true:=hown.one
 cases hck with
 |none hb0 ho0=>
  have hok:(fun k' g=>if k'=k∧g=0 then some v else c.ov k' g) k 0=some v:=if_pos ⟨rfl,rfl⟩
  have hle:c.le {M:=fun b=>c.M b∨ownB v=some b,bl:=c.bl,ov:=fun k' g=>if k'=k∧g=0 then some v else c.ov k' g}:=
   ⟨fun _ _ h=>h,fun k' g u hu=>by
    have:k'≠k:=fun e=>by subst e;rw[ho0]at hu;cases hu
    show (if k'=k∧g=0 then some v else c.ov k' g)=some u
    rw[if_neg (fun e=>this e.1)];exact hu⟩
  have hblk:∀b,(Cx.block {M:=fun b=>c.M b∨ownB v=some b,bl:=c.bl,ov:=fun k' g=>if k'=k∧g=0 then some v else c.ov k' g} k (.row E sz 0 rows)=some b)↔ownB v=some b:=by
   intro b
   simp[Cx.block]
  refine⟨{M:=fun b=>c.M b∨ownB v=some b,bl:=c.bl,ov:=fun k' g=>if k'=k∧g=0 then some v else c.ov k' g},?_,.own k 0 v hok hv1⟩
  refine h.new_chunk hk hkm hx hle (fun _ _=>rfl) (fun k' hne=>?_) (fun b=>?_) (fun b hb=>?_) (fun hkp=>?_)
  ·funext g
   exact if_neg (fun e=>hne e.1)
  ·rw[hblk b]
  ·rw[hblk b]at hb
   exact⟨hnew b hb,hown.lt hb⟩
  ·refine .row E sz 0 rows v xs hok hown (hr.keep hle hkp) hsz h1 (fun g' hg=>?_)
   show (if k=k∧g'=0 then some v else c.ov k g')=none
   rw[if_neg (by omega)];exact ho0 g'
theorem RealC.turn {X:Cfg}{s:FS}{a:Act}{w w':World}{c c':Cx}(h:RealC X s a w c){k:Nat}{ch:Chunk}(hle:c.le c')(hblk0:c'.bl k=c.bl k)(hbl:∀k',k'≠k→c'.bl k'=c.bl k')(hov:∀k',k'≠k→c'.ov k'=c.ov k')
 (hos:w'.os=w.os) (ht:w'.tape=w.tape) (ho:w'.output=w.output) (hs:w.heap.size≤w'.heap.size) (hblock:∀b,b < w.heap.size→c.block k (s.heap k)≠some b→w'.heap[b]? =w.heap[b]?)
 (hM:∀b,c'.M b↔(c.M b∧c.block k (s.heap k)≠some b)∨c'.block k ch=some b)
 (hfresh:∀b,c'.block k ch=some b→(c.block k (s.heap k)=some b∨w.heap.size≤b)∧b < w'.heap.size)
 (hch:Keep c.M w c'.M w'→ChunkOK c' w' k ch):RealC X {s with heap:=effH [(k,ch)] s.heap} a w' c':=by
 have own:∀b,c.block k (s.heap k)=some b→c.M b:=fun b hb=>(h.mu b).2 (.inr ⟨k,hb⟩)
 have hkp:Keep c.M w c'.M w':=⟨hs,fun b hb hm=>hblock b hb (fun e=>hm (own b e)),fun b hb hm=>by
  rcases(hM b).1 hm with h1|h1
  ·exact h1.1
  ·rcases(hfresh b h1).1 with h2|h2
   ·exact own b h2
   ·omega⟩
 have hblk:∀k' ch',k'≠k→c'.block k' ch'=c.block k' ch':=by
  intro k' ch' hne
  cases ch'<;>simp[Cx.block,hbl k' hne,hov k' hne]
 have hat:∀k',effH [(k,ch)] s.heap k'=if k'=k then ch else s.heap k':=fun _=>rfl
 have oldNe:∀k' b,k'≠k→c.block k' (s.heap k')=some b→c.block k (s.heap k)≠some b:=fun k' b hne hb e=>hne (h.apart k' k b hb e)
 refine⟨h.size,h.defers,⟨hos.trans h.ext.os,ht.trans h.ext.tape,ho.trans h.ext.output,Nat.le_trans h.ext.size hs,fun b hb hnl=>?_⟩,h.inv,h.fresh,fun b=>?_,fun k' b hb=>?_,fun k' k'' b hb hb'=>?_,fun t=>(h.env t).keep hle hkp,fun k'=>?_,fun k' hk'=>⟨?_,fun g v hv=>hle.ov _ _ _ ((h.lent k' hk').2 g v hv)⟩⟩
 ·refine(hblock b (Nat.lt_of_lt_of_le hb h.ext.size) (fun e=>?_)).trans (h.ext.block b hb hnl)
  rcases(h.new k b e).1 with h1|h1
  ·exact hnl h1
  ·omega
 ·rw[hM b]
  constructor
  ·rintro (⟨h0,hne⟩|h1)
   ·rcases(h.mu b).1 h0 with h0|⟨k',h1⟩
    ·exact .inl h0
    ·refine .inr ⟨k',?_⟩
     have hkk:k'≠k:=fun e=>by subst e;exact hne h1
     show c'.block k' (effH [(k,ch)] s.heap k')=_
     rw[hat,if_neg hkk,hblk k' _ hkk];exact h1
   ·refine .inr ⟨k,?_⟩
    show c'.block k (effH [(k,ch)] s.heap k)=_
    rw[hat,if_pos rfl];exact h1
  ·rintro (h0|⟨k',h1⟩)
   ·refine .inl ⟨(h.mu b).2 (.inl h0),fun e=>?_⟩
    rcases(h.new k b e).1 with h1|h1
    ·exact(h.fresh b h0).2 h1
    ·have:=(h.fresh b h0).1
     omega
   ·simp only[hat]at h1
    by_cases hne:k'=k
    ·subst hne;rw[if_pos rfl]at h1;exact .inr h1
    ·rw[if_neg hne,hblk k' _ hne]at h1
     exact .inl ⟨(h.mu b).2 (.inr ⟨k',h1⟩),oldNe k' b hne h1⟩
 ·simp only[hat]at hb
  by_cases hne:k'=k
  ·subst hne;rw[if_pos rfl]at hb
   refine⟨?_,(hfresh b hb).2⟩
   rcases(hfresh b hb).1 with h2|h2
   ·exact(h.new _ b h2).1
   ·exact .inr (Nat.le_trans h.ext.size h2)
  ·rw[if_neg hne,hblk k' _ hne]at hb
   exact⟨(h.new k' b hb).1,Nat.lt_of_lt_of_le (h.new k' b hb).2 hs⟩
 ·simp only[hat]at hb hb'
  by_cases h1:k'=k
  ·by_cases h2:k''=k
   ·omega
   ·subst h1
    rw[if_pos rfl]at hb
    rw[if_neg h2,hblk k'' _ h2]at hb'
    rcases(hfresh b hb).1 with h3|h3
    ·exact absurd h3 (oldNe k'' b h2 hb')
    ·have:=(h.new k'' b hb').2;omega
  ·by_cases h2:k''=k
   ·subst h2
    rw[if_pos rfl]at hb'
    rw[if_neg h1,hblk k' _ h1]at hb
    rcases(hfresh b hb').1 with h3|h3
    ·exact absurd h3 (oldNe k' b h1 hb)
    ·have:=(h.new k' b hb).2;omega
   ·rw[if_neg h1,hblk k' _ h1]at hb
    rw[if_neg h2,hblk k'' _ h2]at hb'
    exact h.apart k' k'' b hb hb'
 ·simp only[hat]
  by_cases hne:k'=k
  ·subst hne;rw[if_pos rfl];exact hch hkp
  ·rw[if_neg hne]
   exact(h.chunk k').keep hle hkp (fun b hb=>hblock b (h.new k' b hb).2 (oldNe k' b hne hb)) (hbl k' hne) (hov k' hne)
 ·by_cases hne:k'=k
  ·subst hne;exact hblk0.trans (h.lent k' hk').1
  ·exact(hbl k' hne).trans (h.lent k' hk').1
theorem RealC.set_box {X:Cfg}{s:FS}{a:Act}{w:World}{c:Cx}(h:RealC X s a w c){k T b:Nat}{cells cells':List PV}{vs vs':List Value}(hk:s.heap k= .box T cells)(hb:c.bl k=some b)(hh:w.heap[b]? =some (.cells vs.toArray T (0,0)))
 (hr:RepPs c w cells' vs') (h1:∀d∈cells',d.one=true):RealC X {s with heap:=effH [(k,.box T cells')] s.heap} a (w.setRow b vs'.toArray) c:=by
 have hsz:(w.setRow b vs'.toArray).heap.size=w.heap.size:=by simp[World.setRow]
 have hne:∀b',b'≠b→(w.setRow b vs'.toArray).heap[b']? =w.heap[b']? :=by
  intro b' hb'
  simp only[World.setRow,Array.getElem?_modify]
  rw[if_neg (fun e=>hb' e.symm)]
 have hblk:c.block k (s.heap k)=some b:=by rw[hk];exact hb
 refine h.turn c.le_refl rfl (fun _ _=>rfl) (fun _ _=>rfl) rfl rfl rfl (by omega) (fun b' _ hb'=>hne b' (fun e=>hb' (by rw[e];exact hblk))) (fun b'=>?_) (fun b' hb'=>?_) (fun hkp=>?_)
 ·show c.M b'↔(c.M b'∧c.block k (s.heap k)≠some b')∨c.bl k=some b'
  rw[hblk,hb]
  constructor
  ·intro hm
   by_cases e:b=b'
   ·exact .inr (by rw[e])
   ·exact .inl ⟨hm,fun h=>e (Option.some.inj h)⟩
  ·rintro (⟨hm,_⟩|e)
   ·exact hm
   ·exact(h.mu b').2 (.inr ⟨k,by rw[hblk];exact e⟩)
 ·have e:c.bl k=some b':=hb'
  refine⟨.inl (by rw[hblk,←hb];exact e),?_⟩
  rw[hsz]
  exact(h.new k b' (by rw[hblk,←hb];exact e)).2
 ·exact .box T cells' b vs' hb (setRow_heap w b _ _ T _ hh) (hr.keep c.le_refl hkp) h1
structure OneB (w w':World)(r:Option Nat):Prop where
 os:w'.os=w.os
 tape:w'.tape=w.tape
 output:w'.output=w.output
 size:w.heap.size≤w'.heap.size
 block:∀b,b < w.heap.size→r≠some b→w'.heap[b]? =w.heap[b]?
theorem RealC.set_row {X:Cfg}{s:FS}{a:Act}{w w':World}{c:Cx}(h:RealC X s a w c){k E sz g:Nat}{rows rows':List (List PV)}{v v':Value}{xs':List Value}(hk:s.heap k= .row E sz g rows)(hv:c.ov k g=some v)
 (hg:OneB w w' (ownB v)) (hown:OwnV w' E sz v' rows'.length xs') (hnew:ownB v'=ownB v∨∀b,ownB v'=some b→w.heap.size≤b) (hr:RepPs c w rows'.flatten xs') (hsz:∀r∈rows',r.length=sz)
 (h1:∀r∈rows',∀d∈r,d.one=true):
 ∃c',RealC X {s with heap:=effH [(k,.row E sz (g+1) rows')] s.heap} a w' c'∧RepP c' w' (.own k (g+1)) v':=by
 have hck:=h.chunk k
 rw[hk]at hck
 have hv1:v'.oneCell'=true:=hown.one
 cases hck with
 |row _ _ _ _ u xs hu howno hro hszo h1o hgo=>
  rw[hv]at hu
  cases hu
  have hblk:c.block k (s.heap k)=ownB v:=by rw[hk];simp[Cx.block,hv]
  have hok:(fun k' g'=>if k'=k∧g'=g+1 then some v' else c.ov k' g') k (g+1)=some v':=if_pos ⟨rfl,rfl⟩
  have hle:c.le {M:=fun b=>(c.M b∧ownB v≠some b)∨ownB v'=some b,bl:=c.bl,ov:=fun k' g'=>if k'=k∧g'=g+1 then some v' else c.ov k' g'}:=
   ⟨fun _ _ h=>h,fun k' g' u hu=>by
    have:¬(k'=k∧g'=g+1):=by
     rintro⟨rfl,rfl⟩
     rw[hgo (g+1) (by omega)]at hu
     cases hu
    show (if k'=k∧g'=g+1 then some v' else c.ov k' g')=some u
    rw[if_neg this];exact hu⟩
  have hblk':∀b,(Cx.block {M:=fun b=>(c.M b∧ownB v≠some b)∨ownB v'=some b,bl:=c.bl,ov:=fun k' g'=>if k'=k∧g'=g+1 then some v' else c.ov k' g'} k (.row E sz (g+1) rows')=some b)↔ownB v'=some b:=by
   intro b
   simp[Cx.block]
  refine⟨{M:=fun b=>(c.M b∧ownB v≠some b)∨ownB v'=some b,bl:=c.bl,ov:=fun k' g'=>if k'=k∧g'=g+1 then some v' else c.ov k' g'},?_,.own k (g+1) v' hok hv1⟩
  refine h.turn hle rfl (fun _ _=>rfl) (fun k' hne=>?_) hg.os hg.tape hg.output hg.size (fun b hb hne=>hg.block b hb (fun e=>hne (by rw[hblk];exact e))) (fun b=>?_) (fun b hb=>?_) (fun hkp=>?_)
  ·funext g'
   exact if_neg (fun e=>hne e.1)
  ·rw[hblk',hblk]
  ·rw[hblk']at hb
   refine⟨?_,hown.lt hb⟩
   rw[hblk]
   rcases hnew with e|e
   ·exact .inl (e ▸ hb)
   ·exact .inr (e b hb)
  ·refine .row E sz (g+1) rows' v' xs' hok hown (hr.keep hle hkp) hsz h1 (fun g' hg'=>?_)
   show (if k=k∧g'=g+1 then some v' else c.ov k g')=none
   rw[if_neg (by omega)]
   exact hgo g' (by omega)
theorem RealC.put_row {X:Cfg}{s:FS}{a:Act}{w w':World}{c:Cx}(h:RealC X s a w c){k E sz g:Nat}{rows rows':List (List PV)}{v:Value}{xs':List Value}(hk:s.heap k= .row E sz g rows)(hv:c.ov k g=some v)
 (hg:OneB w w' (ownB v)) (hown:OwnV w' E sz v rows'.length xs') (hr:RepPs c w rows'.flatten xs') (hsz:∀r∈rows',r.length=sz) (h1:∀r∈rows',∀d∈r,d.one=true):
 RealC X {s with heap:=effH [(k,.row E sz g rows')] s.heap} a w' c:=by
 have hck:=h.chunk k
 rw[hk]at hck
 cases hck with
 |row _ _ _ _ u xs hu howno hro hszo h1o hgo=>
  rw[hv]at hu
  cases hu
  have hblk:c.block k (s.heap k)=ownB v:=by rw[hk];simp[Cx.block,hv]
  have hblk':c.block k (.row E sz g rows')=ownB v:=by simp[Cx.block,hv]
  refine h.turn c.le_refl rfl (fun _ _=>rfl) (fun k' hne=>rfl) hg.os hg.tape hg.output hg.size (fun b hb hne=>hg.block b hb (fun e=>hne (by rw[hblk];exact e))) (fun b=>?_) (fun b hb=>?_) (fun hkp=>?_)
  ·rw[hblk',hblk]
   constructor
   ·intro hm
    by_cases e:ownB v=some b
    ·exact .inr e
    ·exact .inl ⟨hm,e⟩
   ·rintro (⟨hm,_⟩|e)
    ·exact hm
    ·exact(h.mu b).2 (.inr ⟨k,by rw[hblk];exact e⟩)
  ·rw[hblk']at hb
   exact⟨.inl (by rw[hblk];exact hb),hown.lt hb⟩
  ·exact .row E sz g rows' v xs' hv hown (hr.keep c.le_refl hkp) hsz h1 hgo
structure TI where
 agg:Bool
 size:Nat
 bytes:Nat
 zero:List Value
 fields:List (Nat × Nat)
 elem:Option Nat
 int:Option IntKind
 kind:Nat
 mp:Option (Nat × Bool)
 arr:Option (Nat × Nat):=none
def placesOf (P:Program)(fs:List Field):Option (List (Nat × Nat)):=fs.mapM fun f=>(P.info? f.type).map fun i=>(f.offset,i.size)
def fieldsIn (P:Program):TypeDesc→List (Nat × Nat)
 | .struct fs=>(placesOf P fs.toList).getD []
 |_=>[]
def aggD:TypeDesc→Bool
 | .struct _=>true
 | .array _ _=>true
 |_=>false
def elemD:TypeDesc→Option Nat
 | .slice e=>some e
 |_=>none
def arrD:TypeDesc→Option (Nat × Nat)
 | .array n e=>some (n,e)
 |_=>none
def intD:TypeDesc→Option IntKind
 | .int k=>some k
 |_=>none
def kindD:TypeDesc→Nat
 | .bool=>1
 | .string=>2
 | .pointer _=>3
 | .map _ _=>4
 | .interface _=>5
 |_=>0
def mpD (P:Program):TypeDesc→Option (Nat × Bool)
 | .map k e=>match P.underlying k,P.info? k,P.underlying e with
  |some (.int .i64),_,some (.int .i64)=>some (1,false)
  |some (.struct _),some i,some (.int .i64)=>some (i.size,true)
  |_,_,_=>none
 |_=>none
def tcheck (P:Program)(t:Nat):Option TI:=
 match P.info? t,P.underlying t with
 |some i,some d=>
  match i.zero with
  |some z=>
   if z.cells.all (·.oneCell')&&(z.cells.size==i.size)then
    some {agg:=aggD d,size:=i.size,bytes:=i.bytes,zero:=z.cells.toList,fields:=fieldsIn P d,elem:=elemD d,int:=intD d,kind:=kindD d,mp:=mpD P d,arr:=arrD d}
   else none
  |none=>none
 |_,_=>none
structure TCk (P:Program)(t:Nat)(ti:TI)(i:TypeInfo)(d:TypeDesc)(z:Value):Prop where
 info:P.info? t=some i
 und:P.underlying t=some d
 zero:i.zero=some z
 zcells:z.cells.toList=ti.zero
 one:∀x∈ti.zero,x.oneCell'=true
 zsize:ti.zero.length=ti.size
 size:i.size=ti.size
 bytes:i.bytes=ti.bytes
 agg:aggD d=ti.agg
 elem:elemD d=ti.elem
 int:intD d=ti.int
 kind:kindD d=ti.kind
 mp:mpD P d=ti.mp
 arr:arrD d=ti.arr
 fields:fieldsIn P d=ti.fields
theorem tck {P:Program}{t:Nat}{ti:TI}(h:tcheck P t=some ti):∃i d z,TCk P t ti i d z:=by
 unfold tcheck at h
 split at h
 ·rename_i i d hi hd
  split at h
  ·rename_i z hz
   split at h
   ·rename_i hc
    simp only[Bool.and_eq_true,beq_iff_eq]at hc
    cases h
    refine⟨i,d,z,hi,hd,hz,rfl,fun x hx=>?_,?_,rfl,rfl,rfl,rfl,rfl,rfl,rfl,rfl,rfl⟩
    ·exact(Array.all_eq_true_iff_forall_mem.1 hc.1) x (by simpa using hx)
    ·simpa using hc.2
   ·cases h
  ·cases h
 ·cases h
theorem places_at {P:Program}{off sz:Nat}:∀{l:List Field}{pl:List (Nat × Nat)},placesOf P l=some pl→∀{f:Nat},pl[f]? =some (off,sz)→∃(g:Field) (j:TypeInfo),l[f]? =some g∧P.info? g.type=some j∧g.offset=off∧j.size=sz
 |[],pl,h,f,hf=>by simp[placesOf]at h;subst h;simp at hf
 |g::l,pl,h,f,hf=>by
  simp only[placesOf,List.mapM_cons,Option.bind_eq_bind,Option.pure_def]at h
  cases hi:P.info? g.type with
  |none=>simp[hi]at h
  |some i=>
   cases hr:l.mapM (fun f=>(P.info? f.type).map fun i=>(f.offset,i.size))with
   |none=>simp[hi,hr]at h
   |some rest=>
    simp[hi,hr]at h
    subst h
    cases f with
    |zero=>simp at hf;exact⟨g,i,rfl,hi,hf.1,hf.2⟩
    |succ f=>simpa using places_at (l:=l) hr (f:=f) (by simpa using hf)
theorem TCk.field {P:Program}{t:Nat}{ti:TI}{i:TypeInfo}{d:TypeDesc}{z:Value}(h:TCk P t ti i d z){f off sz:Nat}(hf:ti.fields[f]? =some (off,sz)):
 ∃(fs:Array Field) (g:Field) (j:TypeInfo),d= .struct fs∧placesOf P fs.toList=some ti.fields∧fs[f]? =some g∧P.info? g.type=some j∧g.offset=off∧j.size=sz:=by
 have hfl:=h.fields
 cases d with
 |struct fs=>
  simp only[fieldsIn]at hfl
  cases hm:placesOf P fs.toList with
  |none=>rw[hm]at hfl;simp at hfl;rw[hfl]at hf;simp at hf
  |some pl=>
   rw[hm]at hfl
   simp at hfl
   subst hfl
   obtain⟨g,j,q1,q2⟩:=places_at hm hf
   exact⟨fs,g,j,rfl,hm,by simpa using q1,q2⟩
 |_=>simp[fieldsIn]at hfl;rw[hfl]at hf;simp at hf
def ev (s:FS):Operand→PV
 | .tmp t=>s.env t
 | .const v=> .d (.v v)
 | .func f=> .d (.clo f [])
 | .global _=> .any
theorem ev_ok {X:Cfg}{s:FS}{a:Act}{w:World}{c:Cx}(h:RealC X s a w c)(x:Operand):RepP c w (ev s x) (a.eval x):=by
 cases x with
 |tmp t=>exact h.env t
 |const v=>exact .d _ _ (.v v)
 |func f=>exact .d _ _ (.clo f [] [] rfl (fun j d x h=>by simp at h))
 |«global» g=>exact .any _
theorem ev_same {ops:Array Oper}{o:Oper}{s s':FS}(he:∀t∈o.looksAt ops,s'.env t=s.env t)(x:Operand)(hx:x∈o.op.operands):ev s' x=ev s x:=by
 cases x with
 |tmp t=>
  refine he t ?_
  unfold Oper.looksAt
  refine List.mem_append_left _ ?_
  rw[List.mem_filterMap]
  exact⟨.tmp t,by simpa using hx,rfl⟩
 |_=>rfl
theorem opok_gen {X:Cfg}{ops:Array Oper}{s:FS}{o:Oper}{r:Res}(hd:∀d,o.dst=some d→d < X.n)(ht:∀kc∈r.eff,kc.1∈r.touch)
 (h:∀s':FS,(∀x∈o.op.operands,ev s' x=ev s x)→(∀k∈r.touch,s'.heap k=s.heap k)→∀a w c,RealC X s' a w c→
  ∃n v w',(execOp a.eval o).run X.P w= .ok n w'∧(n= .value v∨(n= .skip∧v=undef))∧∃c',RealC X {s' with heap:=effH r.eff s'.heap} a w' c'∧RepP c' w' r.pv v):OpOK X ops s o r:=by
 refine⟨hd,ht,fun s' he hk a w hr K Q hK=>?_⟩
 obtain⟨c,hc⟩:=hr
 obtain⟨n,v,w',hrun,hn,c',hc',hp⟩:=h s' (fun x hx=>ev_same he x hx) hk a w c hc
 have:=hK v w' ⟨c',hc'.put hp hd⟩
 unfold Oper.wp
 rw[hrun]
 rcases hn with rfl|⟨rfl,rfl⟩
 ·exact this
 ·exact this
theorem opok_read {X:Cfg}{ops:Array Oper}{s:FS}{o:Oper}{p:PV}{touch:List Nat}(hd:∀d,o.dst=some d→d < X.n)
 (h:∀s':FS,(∀x∈o.op.operands,ev s' x=ev s x)→(∀k∈touch,s'.heap k=s.heap k)→∀a w c,RealC X s' a w c→∃v,(execOp a.eval o).run X.P w= .ok (.value v) w∧RepP c w p v):
 OpOK X ops s o {pv:=p,touch:=touch}:=
 opok_gen hd (fun _ h=>by simp at h) fun s' he hk a w c hc=>by
  obtain⟨v,hrun,hp⟩:=h s' he hk a w c hc
  exact⟨.value v,v,w,hrun,.inl rfl,c,hc,hp⟩
section
variable {X:Cfg}{ops:Array Oper}{s:FS}{o:Oper}(hd:∀d,o.dst=some d→d < X.n)
include hd
theorem op_move {x:Operand}(ho:o.op= .move x):OpOK X ops s o {pv:=ev s x}:=
 opok_read hd fun s' he _ a w c hc=>⟨a.eval x,by simp[execOp,ho],by rw[←he x (by simp[ho,Op.operands])];exact ev_ok hc x⟩
theorem op_assign {x:Operand}(ho:o.op= .assign x):OpOK X ops s o {pv:=ev s x}:=
 opok_read hd fun s' he _ a w c hc=>⟨a.eval x,by simp[execOp,ho],by rw[←he x (by simp[ho,Op.operands])];exact ev_ok hc x⟩
omit hd in
theorem ev_v' {s':FS}{a:Act}{w:World}{c:Cx}(hc:RealC X s' a w c){x:Operand}{v:Value}(h:ev s' x= .d (.v v)):a.eval x=v:=by
 have:=ev_ok hc x
 rw[h]at this
 cases this with
 |d _ _ h=>cases h with|v=>rfl
theorem op_pick {x y z:Operand}{t:Bool}(ho:o.op= .pick x y z)(hx:ev s x= .d (.v (.bool t))):OpOK X ops s o {pv:=if t then ev s y else ev s z}:=
 opok_read hd fun s' he _ a w c hc=>by
  have h1:=ev_v' hc ((he x (by simp[ho,Op.operands])).trans hx)
  refine⟨if t then a.eval y else a.eval z,by simp[execOp,ho,h1,asBool],?_⟩
  cases t with
  |true=>rw[if_pos rfl,if_pos rfl,←he y (by simp[ho,Op.operands])];exact ev_ok hc y
  |false=>rw[if_neg (by simp),if_neg (by simp),←he z (by simp[ho,Op.operands])];exact ev_ok hc z
theorem op_not {t:Nat}{x:Operand}{b:Bool}(ho:o.op= .unOp .not t x)(hx:ev s x= .d (.v (.bool b))):OpOK X ops s o {pv:= .d (.v (.bool (!b)))}:=
 opok_read hd fun s' he _ a w c hc=>by
  have h1:=ev_v' hc ((he x (by simp[ho,Op.operands])).trans hx)
  exact⟨.bool (!b),by simp[execOp,ho,h1,Op.unary],.d _ _ (.v _)⟩
theorem op_neg {t:Nat}{x:Operand}{k:IntKind}{n:Int}(ho:o.op= .unOp .neg t x)(hx:ev s x= .d (.v (.int k n))):OpOK X ops s o {pv:= .d (.v (.int k (k.wrap (0 - n))))}:=
 opok_read hd fun s' he _ a w c hc=>by
  have h1:=ev_v' hc ((he x (by simp[ho,Op.operands])).trans hx)
  exact⟨.int k (k.wrap (0 - n)),by simp[execOp,ho,h1,Op.unary,Op.intArith],.d _ _ (.v _)⟩
theorem op_nilCheck {x:Operand}(ho:o.op= .nilCheck x)(hx:(∃k off,ev s x= .ptr k off)∨∃cs,ev s x= .d (.ept cs)):OpOK X ops s o {pv:=ev s x}:=
 opok_read hd fun s' he _ a w c hc=>by
  have h0:=he x (by simp[ho,Op.operands])
  have h1:=ev_ok hc x
  refine⟨a.eval x,?_,by rw[←h0];exact h1⟩
  have:∃ad,a.eval x= .pointer (some ad):=by
   rcases hx with⟨k,off,hx⟩|⟨cs,hx⟩
   ·rw[h0,hx]at h1
    generalize a.eval x=u at h1
    cases h1
    exact⟨_,rfl⟩
   ·rw[h0,hx]at h1
    generalize a.eval x=u at h1
    cases h1 with
    |d _ _ h=>cases h;exact⟨_,rfl⟩
  obtain⟨ad,h2⟩:=this
  simp[execOp,ho,h2]
def intS (op:BinOp)(k:IntKind)(a b:Int):Option Value:=
 match op with
 | .add=>some (.int k (k.wrap (a+b)))
 | .sub=>some (.int k (k.wrap (a - b)))
 | .mul=>some (.int k (k.wrap (a*b)))
 | .eql=>some (.bool (a==b))
 | .neq=>some (.bool (a !=b))
 | .lss=>some (.bool (decide (a < b)))
 | .leq=>some (.bool (decide (a≤b)))
 | .gtr=>some (.bool (decide (a>b)))
 | .geq=>some (.bool (decide (a≥b)))
 | .shl=>if 0≤b then some (.int k (k.wrap (a*2 ^ min b.toNat k.bits)))else none
 | .shr=>if 0≤b then some (.int k (a.fdiv (2 ^ min b.toNat k.bits)))else none
 | .and=>some (.int k (k.wrap (BitVec.ofInt k.bits a&&& BitVec.ofInt k.bits b).toNat))
 | .or=>some (.int k (k.wrap (BitVec.ofInt k.bits a|||BitVec.ofInt k.bits b).toNat))
 | .andNot=>some (.int k (k.wrap (BitVec.ofInt k.bits a&&& ~~~BitVec.ofInt k.bits b).toNat))
 |_=>none
theorem op_int {op:BinOp}{t t':Nat}{x y:Operand}{k:IntKind}{m n:Int}{r:Value}(ho:o.op= .binOp op t x y t')(hx:ev s x= .d (.v (.int k m)))(hy:ev s y= .d (.v (.int k n)))(hr:intS op k m n=some r):
 OpOK X ops s o {pv:= .d (.v r)}:=
 opok_read hd fun s' he _ a w c hc=>by
  have h1:=ev_v' hc ((he x (by simp[ho,Op.operands])).trans hx)
  have h2:=ev_v' hc ((he y (by simp[ho,Op.operands])).trans hy)
  refine⟨r,?_,.d _ _ (.v _)⟩
  cases op<;>simp[intS]at hr
  case shl=>obtain⟨h0,rfl⟩:=hr;simp[execOp,ho,h1,h2,eqGuard,binOp,Op.shift,Int.not_lt.2 h0]
  case shr=>obtain⟨h0,rfl⟩:=hr;simp[execOp,ho,h1,h2,eqGuard,binOp,Op.shift,Int.not_lt.2 h0]
  all_goals(subst hr;simp[execOp,ho,h1,h2,eqGuard,binOp,Op.intArith,Op.intCmp,Op.intBits])
theorem op_divrem {op:BinOp}{t t':Nat}{x y:Operand}{k:IntKind}{m n:Int}(ho:o.op= .binOp op t x y t')(hx:ev s x= .d (.v (.int k m)))(hy:ev s y= .d (.v (.int k n)))(hn:n≠0){r:Value}
 (hr:(op= .quo∧r= .int k (k.wrap (m.tdiv n)))∨(op= .rem∧r= .int k (m.tmod n))):OpOK X ops s o {pv:= .d (.v r)}:=
 opok_read hd fun s' he _ a w c hc=>by
  have h1:=ev_v' hc ((he x (by simp[ho,Op.operands])).trans hx)
  have h2:=ev_v' hc ((he y (by simp[ho,Op.operands])).trans hy)
  refine⟨r,?_,.d _ _ (.v _)⟩
  rcases hr with⟨rfl,rfl⟩|⟨rfl,rfl⟩<;>simp[execOp,ho,h1,h2,eqGuard,binOp,Op.intDiv,hn]
omit hd in
theorem run_equal_bool {P:Program}{t:Nat}(h:P.underlying t=some .bool)(m n:Bool)(w:World):(Op.equal t (.bool m) (.bool n)).run P w= .ok (m==n) w:=by
 unfold Op.equal
 show (Op.equalIn (9999+1) t (.bool m) (.bool n)).run P w=_
 rw[Op.equalIn,Sem.run_bind,run_underlying h]
 rfl
theorem op_boolEq {ti:TI}{op:BinOp}{t t':Nat}{x y:Operand}{m n:Bool}{r:Bool}(ho:o.op= .binOp op t x y t')(ht:tcheck X.P t=some ti)(hb:ti.kind=1)(hx:ev s x= .d (.v (.bool m)))(hy:ev s y= .d (.v (.bool n)))(hr:(op= .eql∧r=(m==n))∨(op= .neq∧r=(m !=n))):
 OpOK X ops s o {pv:= .d (.v (.bool r))}:=
 opok_read hd fun s' he _ a w c hc=>by
  have h1:=ev_v' hc ((he x (by simp[ho,Op.operands])).trans hx)
  have h2:=ev_v' hc ((he y (by simp[ho,Op.operands])).trans hy)
  obtain⟨i,d,z,tk⟩:=tck ht
  have hd':d= .bool:=by
   have:=tk.kind
   rw[hb]at this
   cases d<;>simp[kindD]at this
   rfl
  subst hd'
  refine⟨.bool r,?_,.d _ _ (.v _)⟩
  rcases hr with⟨rfl,rfl⟩|⟨rfl,rfl⟩<;>simp[execOp,ho,h1,h2,eqGuard,binOp,run_equal_bool tk.und,bne]
def EqOK (P:Program)(t n:Nat):Prop:=∀(w:World) (xs ys:List Int) (x y:Operand) (op:BinOp),xs.length=n→ys.length=n→op= .eql∨op= .neq→
 (do eqGuard op t x y (.agg (xs.map (Value.int .i64)).toArray) (.agg (ys.map (Value.int .i64)).toArray);binOp op t (.agg (xs.map (Value.int .i64)).toArray) (.agg (ys.map (Value.int .i64)).toArray):Sem Value).run P w= .ok (.bool (if op= .eql then xs==ys else xs !=ys)) w
def intsD:List D→Option (List Int)
 |[]=>some []
 | .v (.int .i64 n)::l=>(intsD l).map (n:: ·)
 |_=>none
omit hd in
theorem ints_rep {M:Nat→Prop}{w:World}:∀{ds:List D}{vs:List Value}{xs:List Int},RepDs M w ds vs→intsD ds=some xs→vs=xs.map (Value.int .i64)
 |[],[],xs,_,h=>by cases h;rfl
 |[],_::_,xs,h,_=>by have:=h.1;simp at this
 |d::ds,[],xs,h,_=>by have:=h.1;simp at this
 |d::ds,v::vs,xs,h,hx=>by
  have h0:=h.2 0 d v rfl rfl
  have hr:RepDs M w ds vs:=⟨by simpa using h.1,fun j a b h1 h2=>h.2 (j+1) a b (by simpa using h1) (by simpa using h2)⟩
  unfold intsD at hx
  split at hx
  ·rename_i heq;cases heq
  ·rename_i n l heq
   cases heq
   cases h0
   cases hl:intsD ds with
   |none=>rw[hl]at hx;cases hx
   |some ys=>
    rw[hl]at hx
    cases hx
    rw[ints_rep hr hl]
    rfl
  ·cases hx
theorem op_eqAgg {op:BinOp}{t t' n:Nat}{x y:Operand}{ds es:List D}{xs ys:List Int}(ho:o.op= .binOp op t x y t')(hq:EqOK X.P t n)(hop:op= .eql∨op= .neq)(hx:ev s x= .d (.agg ds))(hy:ev s y= .d (.agg es))
 (h1:intsD ds=some xs) (h2:intsD es=some ys) (h3:xs.length=n) (h4:ys.length=n):OpOK X ops s o {pv:= .d (.v (.bool (if op= .eql then xs==ys else xs !=ys)))}:=
 opok_read hd fun s' he _ a w c hc=>by
  have e1:=ev_ok hc x
  have e2:=ev_ok hc y
  rw[he x (by simp[ho,Op.operands]),hx]at e1
  rw[he y (by simp[ho,Op.operands]),hy]at e2
  refine⟨_,?_,.d _ _ (.v _)⟩
  generalize hu:a.eval x=u at e1
  generalize hv:a.eval y=v at e2
  cases e1 with
  |d _ _ e1=>
   cases e2 with
   |d _ _ e2=>
    cases e1 with
    |agg _ vs hl _ hrep=>
     cases e2 with
     |agg _ vs' hl' _ hrep'=>
      have g1:=ints_rep (xs:=xs) ⟨hl,hrep⟩ h1
      have g2:=ints_rep (xs:=ys) ⟨hl',hrep'⟩ h2
      subst g1
      subst g2
      have:=hq w xs ys x y op h3 h4 hop
      simp only[execOp,ho,hu,hv]
      rw[Sem.run_bind,this]
      rfl
theorem op_field {t f off sz:Nat}{x:Operand}{ds:List D}{ti:TI}(ho:o.op= .fieldAddr t x f)(ht:tcheck X.P t=some ti)(hf:ti.fields[f]? =some (off,sz))(hs:sz≠0)(hx:ev s x= .d (.ept ds)):
 OpOK X ops s o {pv:= .d (.ept (ds.drop off))}:=
 opok_read hd fun s' he _ a w c hc=>by
  have e1:=ev_ok hc x
  rw[he x (by simp[ho,Op.operands]),hx]at e1
  generalize hu:a.eval x=u at e1
  cases e1 with
  |d _ _ e1=>
   cases e1 with
   |ept _ b o' fv hM hb h1 hcell hrep=>
    have hrun:((execOp a.eval o).run X.P w)= .ok (.value (.pointer (some ⟨b,o'+off,none⟩))) w:=by
     obtain⟨i,d,z,tk⟩:=tck ht
     obtain⟨fs,g,j,rfl,-,q1,q2,q3,q4⟩:=tk.field hf
     have hss:j.size≠0:=by omega
     simp[execOp,ho,hu,Instr.fieldAt,run_underlying tk.und,q1,Instr.sureAddr,fieldPlace,sizeOf,typeInfo,q2,hss,q3,Addr.add_lit]
    refine⟨_,hrun,.d _ _ (.ept _ b (o'+off) (fun j=>fv (off+j)) hM hb (fun d hd=>h1 d (List.mem_of_mem_drop hd)) (fun j hj=>?_) (fun j d hj=>?_))⟩
    ·rw[Nat.add_assoc]
     exact hcell (off+j) (by rw[List.length_drop]at hj;omega)
    ·exact hrep (off+j) d (by rwa [List.getElem?_drop]at hj)
end
def setAt {α:Type}(l:List α)(off:Nat)(xs:List α):List α:=l.take off++xs++l.drop (off+xs.length)
theorem setAt_get {α:Type}{l xs:List α}{off:Nat}(h:off+xs.length≤l.length)(k:Nat):(setAt l off xs)[k]? =if off≤k∧k < off+xs.length then xs[k - off]? else l[k]? :=by
 unfold setAt
 have h1:(l.take off).length=off:=by rw[List.length_take];omega
 by_cases hk:k < off
 ·rw[List.append_assoc,List.getElem?_append_left (by omega),if_neg (by omega),List.getElem?_take_of_lt hk]
 ·by_cases hk2:k < off+xs.length
  ·rw[List.append_assoc,List.getElem?_append_right (by omega),h1,List.getElem?_append_left (by omega),if_pos (by omega)]
  ·rw[List.getElem?_append_right (by rw[List.length_append,h1];omega),List.length_append,h1,List.getElem?_drop,if_neg (by omega)]
   congr 1
   omega
theorem setAt_length {α:Type}{l xs:List α}{off:Nat}(h:off+xs.length≤l.length):(setAt l off xs).length=l.length:=by
 simp only[setAt,List.length_append,List.length_take,List.length_drop]
 omega
def foldSet (off:Nat)(l:List Value)(i:Nat)(cs:Array Value):Array Value:=(l.zipIdx i).foldl (fun cs (c,j)=>cs.setIfInBounds (off+j) c) cs
theorem foldSet_get (off:Nat):∀(l:List Value) (i:Nat) (cs:Array Value) (k:Nat),off+i+l.length≤cs.size→(foldSet off l i cs)[k]? =if off+i≤k∧k < off+i+l.length then l[k - (off+i)]? else cs[k]?
 |[],i,cs,k,_=>by rw[if_neg (by simp)];rfl
 |v::l,i,cs,k,h=>by
  have h':off+i < cs.size:=by simp at h;omega
  have:=foldSet_get off l (i+1) (cs.setIfInBounds (off+i) v) k (by simp at h ⊢;omega)
  have e:foldSet off (v::l) i cs=foldSet off l (i+1) (cs.setIfInBounds (off+i) v):=by simp[foldSet,List.zipIdx_cons]
  rw[e,this]
  by_cases hk:k=off+i
  ·subst hk
   rw[if_neg (by omega),if_pos ⟨Nat.le_refl _,by simp⟩]
   simp[h']
  ·rw[Array.getElem?_setIfInBounds_ne (fun e=>hk e.symm)]
   by_cases hk2:off+(i+1)≤k∧k < off+(i+1)+l.length
   ·rw[if_pos hk2,if_pos ⟨by omega,by simp;omega⟩]
    rw[show k - (off+i)=(k - (off+(i+1)))+1 by omega,List.getElem?_cons_succ]
   ·rw[if_neg hk2,if_neg (by simp;omega)]
theorem foldSet_list (off:Nat)(l:List Value)(cs:Array Value)(h:off+l.length≤cs.size):(foldSet off l 0 cs).toList=setAt cs.toList off l:=by
 apply List.ext_getElem?
 intro k
 rw[setAt_get (by simpa using h),Array.getElem?_toList,foldSet_get off l 0 cs k (by simpa using h)]
 simp
theorem fill_step (place:Nat→Option (Nat × Nat))(cells:Array Value)(i off size:Nat)(v:Value)(rest:List (Nat × Value))(hp:place i=some (off,size))(hs:v.cells.size=size)(ho:off+size≤cells.size):
 Instr.fill place cells ((i,v)::rest)=Instr.fill place (setAt cells.toList off v.cells.toList).toArray rest:=by
 have e:(v.cells.zipIdx.foldl (fun cs (c,j)=>cs.setIfInBounds (off+j) c) cells)=(setAt cells.toList off v.cells.toList).toArray:=by
  have h1:=foldSet_list off v.cells.toList cells (by simp;omega)
  rw[←h1,Array.toArray_toList]
  unfold foldSet
  rw[←Array.foldl_toList,Array.toList_zipIdx]
 rw[Instr.fill]
 simp only[hp]
 rw[if_neg (by simp[hs];omega),e]
def cellsP:PV→List PV
 | .d (.agg ds)=>ds.map .d
 | .agg ps=>ps
 |p=>[p]
def okP:PV→Bool
 | .d (.agg _)=>true
 | .agg _=>true
 |p=>p.one
theorem RepPs.one {c:Cx}{w:World}{ds:List PV}{vs:List Value}(h:RepPs c w ds vs)(h1:∀d∈ds,d.one=true):∀x∈vs,x.oneCell'=true:=by
 intro x hx
 obtain⟨j,hj,e⟩:=List.getElem_of_mem hx
 have hj':j < ds.length:=by rw[h.1];exact hj
 exact(h.2 j ds[j] x (List.getElem?_eq_getElem hj') (by rw[←e];exact List.getElem?_eq_getElem hj)).one (h1 _ (List.getElem_mem hj'))
theorem RepDs.one {M:Nat→Prop}{w:World}{ds:List D}{vs:List Value}(h:RepDs M w ds vs)(h1:∀d∈ds,d.one=true):∀x∈vs,x.oneCell'=true:=by
 intro x hx
 obtain⟨j,hj,e⟩:=List.getElem_of_mem hx
 have hj':j < ds.length:=by rw[h.1];exact hj
 exact(h.2 j ds[j] x (List.getElem?_eq_getElem hj') (by rw[←e];exact List.getElem?_eq_getElem hj)).one (h1 _ (List.getElem_mem hj'))
theorem cells_one {v:Value}(h:v.oneCell'=true):v.cells=#[v]:=by
 cases v<;>first|rfl|cases h
theorem cells_rep {c:Cx}{w:World}{p:PV}{v:Value}(h:RepP c w p v)(hok:okP p=true):RepPs c w (cellsP p) v.cells.toList∧∀d∈cellsP p,d.one=true:=by
 have single:p.one=true→cellsP p=[p]→RepPs c w (cellsP p) v.cells.toList∧∀d∈cellsP p,d.one=true:=by
  intro h1 e
  rw[e,cells_one (h.one h1)]
  refine⟨⟨rfl,fun j d x hj hx=>?_⟩,fun d hd=>by simp at hd;subst hd;exact h1⟩
  cases j with
  |zero=>simp at hj hx;subst hj;subst hx;exact h
  |succ j=>simp at hj
 cases p with
 |d x=>
  cases x with
  |agg ds=>
   cases h with
   |d _ _ h=>
    cases h with
    |agg _ vs hl h1 hrep=>
     refine⟨⟨by simpa[cellsP,Value.cells]using hl,fun j d x hj hx=>?_⟩,fun d hd=>?_⟩
     ·simp only[cellsP,List.getElem?_map,Option.map_eq_some_iff]at hj
      obtain⟨y,hy,rfl⟩:=hj
      exact .d _ _ (hrep j y x hy (by simpa[Value.cells]using hx))
     ·simp only[cellsP,List.mem_map]at hd
      obtain⟨y,hy,rfl⟩:=hd
      exact h1 y hy
  |tup ds=>simp[okP,PV.one,D.one]at hok
  |_=>exact single hok rfl
 |any=>simp[okP,PV.one]at hok
 |tup=>simp[okP,PV.one]at hok
 |agg ps=>
  cases h with
  |agg _ vs hl h1 hrep=>exact⟨⟨by simpa[cellsP,Value.cells]using hl,fun j d x hj hx=>hrep j d x hj (by simpa[Value.cells]using hx)⟩,h1⟩
 |_=>exact single hok rfl
theorem repPs_set {c:Cx}{w:World}{ds es:List PV}{vs us:List Value}{off:Nat}(h:RepPs c w ds vs)(g:RepPs c w es us)(ho:off+es.length≤ds.length):RepPs c w (setAt ds off es) (setAt vs off us):=by
 have ho':off+us.length≤vs.length:=by rw[←g.1,←h.1];exact ho
 refine⟨by rw[setAt_length ho,setAt_length ho',h.1],fun j d x hj hx=>?_⟩
 rw[setAt_get ho]at hj
 rw[setAt_get ho',←g.1]at hx
 by_cases hc:off≤j∧j < off+es.length
 ·rw[if_pos hc]at hj hx
  exact g.2 _ d x hj hx
 ·rw[if_neg hc]at hj hx
  exact h.2 _ d x hj hx
theorem mem_setAt {α:Type}{l xs:List α}{off:Nat}{d:α}(h:d∈setAt l off xs):d∈l∨d∈xs:=by
 simp only[setAt,List.mem_append]at h
 rcases h with (h|h)|h
 ·exact .inl (List.mem_of_mem_take h)
 ·exact .inr h
 ·exact .inl (List.mem_of_mem_drop h)
theorem repDs_v {M:Nat→Prop}{w:World}(vs:List Value):RepDs M w (vs.map .v) vs:=⟨by simp,fun j d x hj hx=>by
 simp only[List.getElem?_map,hx,Option.map_some,Option.some.injEq]at hj
 subst hj
 exact .v x⟩
theorem repPs_d {c:Cx}{w:World}{ds:List D}{vs:List Value}(h:RepDs c.M w ds vs):RepPs c w (ds.map .d) vs:=⟨by simpa using h.1,fun j d x hj hx=>by
 simp only[List.getElem?_map,Option.map_eq_some_iff]at hj
 obtain⟨y,hy,rfl⟩:=hj
 exact .d _ _ (h.2 j y x hy hx)⟩
def dsOf:List PV→Option (List D)
 |[]=>some []
 | .d x::l=>(dsOf l).map (x:: ·)
 |_=>none
theorem dsOf_eq:∀{l:List PV}{ds:List D},dsOf l=some ds→l=ds.map .d
 |[],ds,h=>by simp[dsOf]at h;subst h;rfl
 |p::l,ds,h=>by
  unfold dsOf at h
  split at h
  ·rename_i heq;cases heq
  ·rename_i x l' heq
   cases heq
   cases hl:dsOf l with
   |none=>rw[hl]at h;cases h
   |some es=>
    rw[hl]at h
    cases h
    rw[dsOf_eq hl]
    rfl
  ·cases h
def aggP (l:List PV):PV:=match dsOf l with|some ds=> .d (.agg ds)|none=> .agg l
def tupP (l:List PV):PV:=match dsOf l with|some ds=> .d (.tup ds)|none=> .tup l
theorem repPs_ds {c:Cx}{w:World}{ds:List D}{vs:List Value}(h:RepPs c w (ds.map .d) vs):RepDs c.M w ds vs:=⟨by simpa using h.1,fun j d x hj hx=>by
 have:=h.2 j (.d d) x (by rw[List.getElem?_map,hj];rfl) hx
 cases this with|d _ _ h=>exact h⟩
theorem rep_aggP {c:Cx}{w:World}{l:List PV}{vs:List Value}(h:RepPs c w l vs)(h1:∀d∈l,d.one=true):RepP c w (aggP l) (.agg vs.toArray):=by
 unfold aggP
 split
 ·rename_i ds hds
  have e:=dsOf_eq hds
  subst e
  have:=repPs_ds h
  exact .d _ _ (.agg ds vs this.1 (fun d hd=>h1 (.d d) (List.mem_map_of_mem hd)) this.2)
 ·exact .agg l vs h.1 h1 h.2
theorem rep_tupP {c:Cx}{w:World}{l:List PV}{vs:List Value}(h:RepPs c w l vs):RepP c w (tupP l) (.tuple vs.toArray):=by
 unfold tupP
 split
 ·rename_i ds hds
  have e:=dsOf_eq hds
  subst e
  have:=repPs_ds h
  exact .d _ _ (.tup ds vs this.1 this.2)
 ·exact .tup l vs h.1 h.2
def fillD {α:Type}(pl:List (Nat × Nat)):List α→List (Nat × List α)→Option (List α)
 |cells,[]=>some cells
 |cells,(i,xs)::rest=>
  match pl[i]? with
  |none=>none
  |some (off,size)=>if xs.length=size∧off+size≤cells.length then fillD pl (setAt cells off xs) rest else none
theorem fill_rep {c:Cx}{w:World}(pl:List (Nat × Nat))(place:Nat→Option (Nat × Nat))(hpl:∀i p,pl[i]? =some p→place i=some p):∀(pd:List (Nat × List PV)) (pv:List (Nat × Value)) (cells:List PV) (vs:List Value) (out:List PV),RepPs c w cells vs→
 pd.map (·.1)=pv.map (·.1)→(∀(j:Nat) (d:Nat × List PV) (x:Nat × Value),pd[j]? =some d→pv[j]? =some x→RepPs c w d.2 x.2.cells.toList)→fillD pl cells pd=some out→(∀d∈cells,d.one=true)→(∀q∈pd,∀d∈q.2,d.one=true)→
 ∃vs':List Value,Instr.fill place vs.toArray pv=some vs'.toArray∧RepPs c w out vs'∧(∀d∈out,d.one=true)∧out.length=cells.length
 |[],[],cells,vs,out,h,_,_,hf,h1,_=>by
  simp[fillD]at hf
  subst hf
  exact⟨vs,rfl,h,h1,rfl⟩
 |[],_::_,_,_,_,_,hm,_,_,_,_=>by simp at hm
 |_::_,[],_,_,_,_,hm,_,_,_,_=>by simp at hm
 |(i,xs)::pd,(i',v)::pv,cells,vs,out,h,hm,hr,hf,h1,h2=>by
  simp only[List.map_cons,List.cons.injEq]at hm
  obtain⟨rfl,hm⟩:=hm
  have hx:=hr 0 (i,xs) (i,v) rfl rfl
  unfold fillD at hf
  split at hf
  ·cases hf
  ·rename_i off size hp
   split at hf
   ·rename_i hc
    have hvs:v.cells.size=size:=by have:=hx.1;simp at this;omega
    have hlen:off+xs.length≤cells.length:=by omega
    rw[fill_step place vs.toArray i off size v pv (hpl i _ hp) hvs (by have:=h.1;simp;omega)]
    obtain⟨vs',q1,q2,q3,q4⟩:=fill_rep pl place hpl pd pv (setAt cells off xs) (setAt vs off v.cells.toList) out (repPs_set h hx hlen) hm (fun j d x hj hx=>hr (j+1) d x (by simpa using hj) (by simpa using hx)) hf
     (fun d hd=>(mem_setAt hd).elim (h1 d) (h2 (i,xs) (by simp) d)) (fun q hq=>h2 q (by simp[hq]))
    exact⟨vs',q1,q2,q3,by rw[q4,setAt_length hlen]⟩
   ·cases hf
theorem repD_inv {c:Cx}{w:World}{d:D}{v:Value}(h:RepP c w (.d d) v):RepD c.M w d v:=by
 cases h with|d _ _ h=>exact h
theorem flatten_atG {α:Type}{sz:Nat}:∀{rows:List (List α)},(∀r∈rows,r.length=sz)→∀i j,j < sz→rows.flatten[i*sz+j]? =(rows[i]?).bind (·[j]?)
 |[],_,i,j,_=>by simp
 |r::rows,h,0,j,hj=>by
  rw[List.flatten_cons,List.getElem?_append_left (by rw[h r (by simp)];omega)]
  simp
 |r::rows,h,i+1,j,hj=>by
  have hr:=h r (by simp)
  rw[List.flatten_cons,List.getElem?_append_right (by rw[hr,Nat.succ_mul];omega),hr,show (i+1)*sz+j - sz=i*sz+j by rw[Nat.succ_mul];omega,flatten_atG (fun r hr=>h r (by simp[hr])) i j hj]
  simp
section
variable {X:Cfg}{ops:Array Oper}{s:FS}{o:Oper}(hd:∀d,o.dst=some d→d < X.n)
include hd
theorem op_fieldPtr {t f off sz k o':Nat}{x:Operand}{ti:TI}(ho:o.op= .fieldAddr t x f)(ht:tcheck X.P t=some ti)(hf:ti.fields[f]? =some (off,sz))(hs:sz≠0)(hx:ev s x= .ptr k o'):
 OpOK X ops s o {pv:= .ptr k (o'+off)}:=
 opok_read hd fun s' he _ a w c hc=>by
  have e1:=ev_ok hc x
  rw[he x (by simp[ho,Op.operands]),hx]at e1
  generalize hu:a.eval x=u at e1
  cases e1 with
  |ptr _ _ b hb=>
   obtain⟨i,d,z,tk⟩:=tck ht
   obtain⟨fs,g,j,rfl,-,q1,q2,q3,q4⟩:=tk.field hf
   have hss:j.size≠0:=by omega
   exact⟨.pointer (some ⟨b,o'+off,none⟩),by simp[execOp,ho,hu,Instr.fieldAt,run_underlying tk.und,q1,Instr.sureAddr,fieldPlace,sizeOf,typeInfo,q2,hss,q3,Addr.add_lit],.ptr k _ b hb⟩
omit hd in
theorem run_loadAt {P:Program}{t:Nat}{ti:TI}(ht:tcheck P t=some ti)(w:World)(b off:Nat)(cs:List Value)(hl:cs.length=ti.size)(hcs:∀j v,cs[j]? =some v→w.cell? ⟨b,off+j,none⟩=some v)(h0:ti.agg=false→∃v,cs=[v]):
 (Instr.loadAt t (.pointer (some ⟨b,off,none⟩))).run P w= .ok (if ti.agg then .agg cs.toArray else cs.headD undef) w:=by
 obtain⟨i,d,z,tk⟩:=tck ht
 have hagg:(isAgg t).run P w= .ok ti.agg w:=by
  unfold isAgg
  rw[Sem.run_bind,run_underlying tk.und w,←tk.agg]
  cases d<;>simp[aggD]
 have hcell:∀j v,cs[j]? =some v→w.cell? ((⟨b,off,none⟩:Addr).add j)=some v:=fun j v hv=>by rw[Addr.add_lit];exact hcs j v hv
 cases hg:ti.agg with
 |true=>
  have hl':=run_loadCells_list (P:=P) w ⟨b,off,none⟩ cs hcell
  rw[hl,←tk.size]at hl'
  rw[hg]at hagg
  simp[Instr.loadAt,Instr.sureAddr,loadVar,Sem.run_bind,hagg,sizeOf,typeInfo,tk.info,hl']
 |false=>
  obtain⟨v,rfl⟩:=h0 hg
  rw[hg]at hagg
  have:=hcs 0 v rfl
  simp only[Nat.add_zero]at this
  simp[Instr.loadAt,Instr.sureAddr,loadVar,Sem.run_bind,hagg,this]
theorem op_loadE {t:Nat}{x:Operand}{ti:TI}{ds:List D}{p:D}(ho:o.op= .load t x)(ht:tcheck X.P t=some ti)(hx:ev s x= .d (.ept ds))(hsz:ti.size≤ds.length)(hp:(ti.agg=true∧p= .agg (ds.take ti.size))∨(ti.agg=false∧ti.size=1∧ds[0]? =some p)):
 OpOK X ops s o {pv:= .d p}:=
 opok_read hd fun s' he _ a w c hc=>by
  have e1:=ev_ok hc x
  rw[he x (by simp[ho,Op.operands]),hx]at e1
  generalize hu:a.eval x=u at e1
  cases e1 with
  |d _ _ e1=>
   cases e1 with
   |ept _ b off f hM hb h1 hcell hrep=>
    have hrun:=run_loadAt ht w b off ((List.range ti.size).map f) (by simp) (fun j v hj=>by
     simp only[List.getElem?_map,Option.map_eq_some_iff]at hj
     obtain⟨y,hy,rfl⟩:=hj
     have:=List.getElem?_range (n:=ti.size) (i:=j)
     have hj':j < ti.size:=by
      rcases Nat.lt_or_ge j ti.size with h|h
      ·exact h
      ·rw[List.getElem?_eq_none (by simpa using h)]at hy;cases hy
     rw[List.getElem?_range hj']at hy
     cases hy
     exact hcell j (by omega))
    rcases hp with⟨hag,rfl⟩|⟨hag,hs1,hp⟩
    ·refine⟨.agg ((List.range ti.size).map f).toArray,?_,.d _ _ (.agg _ _ (by simp;omega) (fun d hd=>h1 d (List.mem_of_mem_take hd)) (fun j d v hj hv=>?_))⟩
     ·have:=hrun (fun h=>by rw[hag]at h;cases h)
      rw[hag,if_pos rfl]at this
      simp only[execOp,ho,hu]
      rw[Sem.run_bind,this]
      rfl
     ·rw[List.getElem?_take]at hj
      split at hj
      ·rename_i hlt
       simp only[List.getElem?_map,List.getElem?_range hlt,Option.map_some,Option.some.injEq]at hv
       subst hv
       exact hrep j d hj
      ·cases hj
    ·refine⟨f 0,?_,.d _ _ (hrep 0 p hp)⟩
     have:=hrun (fun _=>⟨f 0,by rw[hs1];rfl⟩)
     rw[hag,hs1]at this
     simp only[execOp,ho,hu]
     rw[Sem.run_bind,this]
     rfl
omit hd in
theorem take_drop_at {α:Type}{l:List α}{off n j:Nat}{x:α}(h:((l.drop off).take n)[j]? =some x):j < n∧l[off+j]? =some x:=by
 rw[List.getElem?_take]at h
 split at h
 ·rename_i hlt
  rw[List.getElem?_drop]at h
  exact⟨hlt,h⟩
 ·cases h
omit hd in
theorem RepPs.part {c:Cx}{w:World}{l:List PV}{vs:List Value}(h:RepPs c w l vs)(off n:Nat):RepPs c w ((l.drop off).take n) ((vs.drop off).take n):=
 ⟨by rw[List.length_take,List.length_take,List.length_drop,List.length_drop,h.1],fun j d x hj hx=>h.2 _ d x (take_drop_at hj).2 (take_drop_at hx).2⟩
theorem op_loadP {t k off T:Nat}{x:Operand}{ti:TI}{cells:List PV}{p:PV}(ho:o.op= .load t x)(ht:tcheck X.P t=some ti)(hx:ev s x= .ptr k off)(hk:s.heap k= .box T cells)(hsz:off+ti.size≤cells.length)
 (hp:(ti.agg=true∧p=aggP ((cells.drop off).take ti.size))∨(ti.agg=false∧ti.size=1∧cells[off]? =some p)):OpOK X ops s o {pv:=p,touch:=[k]}:=
 opok_read hd fun s' he hkk a w c hc=>by
  have e1:=ev_ok hc x
  rw[he x (by simp[ho,Op.operands]),hx]at e1
  generalize hu:a.eval x=u at e1
  have hck:=hc.chunk k
  rw[hkk k (by simp),hk]at hck
  cases e1 with
  |ptr _ _ b hb=>
   cases hck with
   |box _ _ b' vs hb' hh hr h1=>
    rw[hb]at hb'
    cases hb'
    have hvl:vs.length=cells.length:=hr.1.symm
    have hrun:=run_loadAt ht w b off ((vs.drop off).take ti.size) (by rw[List.length_take,List.length_drop];omega) (fun j v hj=>by
     simp[World.cell?,hh,(take_drop_at hj).2])
    rcases hp with⟨hag,rfl⟩|⟨hag,hs1,hp⟩
    ·refine⟨.agg ((vs.drop off).take ti.size).toArray,?_,rep_aggP (hr.part off ti.size) (fun d hd=>h1 d (List.mem_of_mem_drop (List.mem_of_mem_take hd)))⟩
     have:=hrun (fun h=>by rw[hag]at h;cases h)
     rw[hag,if_pos rfl]at this
     simp only[execOp,ho,hu]
     rw[Sem.run_bind,this]
     rfl
    ·obtain⟨v,hv⟩:∃v,vs[off]? =some v:=⟨vs[off]'(by omega),List.getElem?_eq_getElem _⟩
     have hone:(vs.drop off).take ti.size=[v]:=by
      rw[hs1,List.drop_eq_getElem_cons (by omega)]
      simp only[List.take_succ_cons,List.take_zero]
      rw[List.getElem?_eq_getElem (by omega)]at hv
      simpa using hv
     refine⟨v,?_,hr.2 off p v hp hv⟩
     have:=hrun (fun _=>⟨v,hone⟩)
     rw[hag,hone]at this
     simp only[execOp,ho,hu]
     rw[Sem.run_bind,this]
     rfl
theorem op_index {t e sz:Nat}{x y:Operand}{ti te:TI}{rows:List (List D)}{row:List D}{kd:IntKind}{n:Int}(ho:o.op= .indexAddr t x y)(ht:tcheck X.P t=some ti)(he':ti.elem=some e)(hte:tcheck X.P e=some te)(hsz:te.size=sz)
 (hx:ev s x= .d (.sl sz rows)) (hy:ev s y= .d (.v (.int kd n))) (hn:0≤n) (hrow:rows[n.toNat]? =some row):OpOK X ops s o {pv:= .d (.ept row)}:=
 opok_read hd fun s' he _ a w c hc=>by
  have e1:=ev_ok hc x
  rw[he x (by simp[ho,Op.operands]),hx]at e1
  have e2:=ev_v' hc ((he y (by simp[ho,Op.operands])).trans hy)
  generalize hu:a.eval x=u at e1
  have hlt:n.toNat < rows.length:=(List.getElem?_eq_some_iff.1 hrow).1
  have e1:=repD_inv e1
  cases e1 with
  |nil=>simp at hlt
  |sl _ _ b off cap f hM hb hc' hm hr h1 hcell hrep=>
   obtain⟨i,d,z,tk⟩:=tck ht
   obtain⟨ie,de,ze,tke⟩:=tck hte
   have hde:d= .slice e:=by
    have:=tk.elem
    rw[he']at this
    cases d<;>simp[elemD]at this
    rw[this]
   subst hde
   have hcond:0≤n∧n < (rows.length:Int):=⟨hn,by omega⟩
   have hrl:row.length=sz:=hr row (List.mem_of_getElem? hrow)
   refine⟨.pointer (some ⟨b,off+n.toNat*sz,none⟩),?_,.d _ _ (.ept row b _ (fun j=>f n.toNat j) hM hb (fun d hd=>h1 row (List.mem_of_getElem? hrow) d hd) (fun j hj=>hcell _ j hlt (by omega)) (fun j d hj=>hrep _ j row d hrow hj))⟩
   simp[execOp,ho,hu,e2,Instr.indexAt,asIntOf,run_underlying tk.und,hcond,sizeOf,typeInfo,tke.info,tke.size,hsz,Addr.add_lit]
theorem op_len {t ty:Nat}{x:Operand}{e:Nat}{ti:TI}{d:D}{n:Nat}(ho:o.op= .call {callee:= .builtin .len,args:=#[x],argTypes:=#[t]})(ht:tcheck X.P t=some ti)(he':ti.elem=some e)(hx:ev s x= .d d)
 (hn:(∃sz rows,d= .sl sz rows∧n=rows.length)∨(d= .v (.slice none 0 0)∧n=0)):OpOK X ops s o {pv:= .d (.v (.int .i64 n))}:=
 opok_read hd fun s' he _ a w c hc=>by
  have e1:=ev_ok hc x
  rw[he x (by simp[ho,Op.operands,Call.operands]),hx]at e1
  generalize hu:a.eval x=u at e1
  obtain⟨i,dd,z,tk⟩:=tck ht
  have hde:dd= .slice e:=by
   have:=tk.elem
   rw[he']at this
   cases dd<;>simp[elemD]at this
   rw[this]
  subst hde
  have hsl:∃ao cap,u= .slice ao n cap:=by
   have e1:=repD_inv e1
   rcases hn with⟨sz,rows,rfl,rfl⟩|⟨rfl,rfl⟩
   ·cases e1 with
    |nil _ ao cap=>exact⟨ao,cap,rfl⟩
    |sl _ _ b off cap=>exact⟨_,cap,rfl⟩
   ·cases e1
    exact⟨none,0,rfl⟩
  obtain⟨ao,cap,rfl⟩:=hsl
  refine⟨.int .i64 n,?_,.d _ _ (.v _)⟩
  simp[execOp,ho,hu,resolve,invoke,builtin,Builtin.len_,run_underlying tk.und,goInt]
theorem op_extract {x:Operand}{i:Nat}{ds:List D}{d:D}(ho:o.op= .extract x i)(hx:ev s x= .d (.tup ds))(hi:ds[i]? =some d):OpOK X ops s o {pv:= .d d}:=
 opok_read hd fun s' he _ a w c hc=>by
  have e1:=ev_ok hc x
  rw[he x (by simp[ho,Op.operands]),hx]at e1
  generalize hu:a.eval x=u at e1
  have e1:=repD_inv e1
  cases e1 with
  |tup _ vs hl hrep=>
   have hlt:i < vs.length:=by rw[←hl];exact(List.getElem?_eq_some_iff.1 hi).1
   have hv:vs[i]? =some vs[i]:=List.getElem?_eq_getElem hlt
   exact⟨vs[i],by simp[execOp,ho,hu,Instr.extract,hv],.d _ _ (hrep i d _ hi hv)⟩
theorem op_extractP {x:Operand}{i:Nat}{ds:List PV}{d:PV}(ho:o.op= .extract x i)(hx:ev s x= .tup ds)(hi:ds[i]? =some d):OpOK X ops s o {pv:=d}:=
 opok_read hd fun s' he _ a w c hc=>by
  have e1:=ev_ok hc x
  rw[he x (by simp[ho,Op.operands]),hx]at e1
  generalize hu:a.eval x=u at e1
  cases e1 with
  |tup _ vs hl hrep=>
   have hlt:i < vs.length:=by rw[←hl];exact(List.getElem?_eq_some_iff.1 hi).1
   have hv:vs[i]? =some vs[i]:=List.getElem?_eq_getElem hlt
   exact⟨vs[i],by simp[execOp,ho,hu,Instr.extract,hv],hrep i d _ hi hv⟩
theorem op_buildP {t:Nat}{pl:List (Nat × Nat)}{place:Nat→Option (Nat × Nat)}{parts:Array (Nat × Operand)}{ti:TI}{pd:List (Nat × List PV)}{out:List PV}(ho:o.op= .build t parts)(ht:tcheck X.P t=some ti)(hpl:∀i p,pl[i]? =some p→place i=some p)(hbt:∀ps,X.P.built t ps=Instr.fill place ti.zero.toArray ps)
 (hp:pd.length=parts.size) (hq:∀(j:Nat) (i:Nat) (x:Operand),parts[j]? =some (i,x)→pd[j]? =some (i,cellsP (ev s x))∧okP (ev s x)=true) (hf:fillD pl (ti.zero.map fun x=> .d (.v x)) pd=some out):
 OpOK X ops s o {pv:=aggP out}:=
 opok_read hd fun s' he _ a w c hc=>by
  obtain⟨i,d,z,tk⟩:=tck ht
  have hz0:RepPs c w (ti.zero.map fun x=> .d (.v x)) ti.zero:=by
   have:=repPs_d (c:=c) (repDs_v (M:=c.M) (w:=w) ti.zero)
   rwa [List.map_map]at this
  have hone0:∀d∈ti.zero.map (fun x=>PV.d (.v x)),d.one=true:=by
   intro d hd
   obtain⟨x,hx,rfl⟩:=List.mem_map.1 hd
   exact tk.one x hx
  have hpart:∀(j:Nat) (d:Nat × List PV) (x:Nat × Value),pd[j]? =some d→(parts.toList.map fun(i,x)=>(i,a.eval x))[j]? =some x→d.1=x.1∧RepPs c w d.2 x.2.cells.toList∧∀e∈d.2,e.one=true:=by
   intro j d x hj hx
   simp only[List.getElem?_map,Array.getElem?_toList,Option.map_eq_some_iff]at hx
   obtain⟨⟨i,y⟩,hy,rfl⟩:=hx
   obtain⟨h1,h3⟩:=hq j i y hy
   rw[hj]at h1
   cases h1
   have hmem:y∈o.op.operands:=by
    rw[ho]
    simp only[Op.operands,List.mem_toArray,List.mem_map]
    exact⟨(i,y),by simpa using Array.mem_of_getElem? hy,rfl⟩
   have hrep:=ev_ok hc y
   rw[he y hmem]at hrep
   rw[←he y hmem]at h3
   have:=cells_rep (ev_ok hc y) h3
   rw[he y hmem]at this
   exact⟨rfl,this⟩
  obtain⟨vs',q1,q2,q3,q4⟩:=fill_rep (c:=c) (w:=w) pl place hpl pd (parts.toList.map fun(i,x)=>(i,a.eval x)) (ti.zero.map fun x=> .d (.v x)) ti.zero out hz0
   (by
    apply List.ext_getElem?
    intro j
    simp only[List.getElem?_map]
    cases hj:parts[j]? with
    |none=>
     have h1:parts.size≤j:=by simpa using hj
     rw[List.getElem?_eq_none (by omega)]
     simp[hj]
    |some ix=>
     obtain⟨i,x⟩:=ix
     obtain⟨h1,-⟩:=hq j i x hj
     simp[hj,h1])
   (fun j d x h1 h2=>(hpart j d x h1 h2).2.1) hf hone0
   (fun q hq' e he'=>by
    obtain⟨j,hj,hjq⟩:=List.getElem_of_mem hq'
    have hjs:j < parts.toList.length:=by simpa using hp ▸ hj
    exact(hpart j q _ (by rw[←hjq];exact List.getElem?_eq_getElem hj) (by rw[List.getElem?_map,List.getElem?_eq_getElem hjs];rfl)).2.2 e he')
  refine⟨.agg vs'.toArray,?_,rep_aggP q2 q3⟩
  have hb:X.P.built t (parts.map fun(i,x)=>(i,a.eval x)).toList=some vs'.toArray:=by
   rw[hbt,Array.toList_map]
   exact q1
  have:=run_build w t (parts.map fun(i,x)=>(i,a.eval x)) vs'.toArray hb
  simp only[execOp,ho]
  rw[Sem.run_bind,this]
  rfl
theorem op_build {t:Nat}{parts:Array (Nat × Operand)}{ti:TI}{pd:List (Nat × List PV)}{out:List PV}(ho:o.op= .build t parts)(ht:tcheck X.P t=some ti)(hst:ti.fields≠[])
 (hp:pd.length=parts.size) (hq:∀(j:Nat) (i:Nat) (x:Operand),parts[j]? =some (i,x)→pd[j]? =some (i,cellsP (ev s x))∧okP (ev s x)=true) (hf:fillD ti.fields (ti.zero.map fun x=> .d (.v x)) pd=some out):
 OpOK X ops s o {pv:=aggP out}:=
 by
  obtain⟨i,d,z,tk⟩:=tck ht
  obtain⟨⟨off,sz⟩,rest,hfl⟩:∃p l,ti.fields=p::l:=by
   cases h:ti.fields with
   |nil=>exact absurd h hst
   |cons p l=>exact⟨p,l,rfl⟩
  obtain⟨fs,g,j,rfl,hpl,-⟩:=tk.field (f:=0) (off:=off) (sz:=sz) (by rw[hfl];rfl)
  refine op_buildP hd ho ht (pl:=ti.fields) (place:=(ti.fields.toArray[·]?)) (fun i p h=>by simpa using h) (fun ps=>?_) hp hq hf
  unfold Program.built
  have hpl':fs.toList.mapM (fun f=>(X.P.info? f.type).map fun i=>(f.offset,i.size))=some ti.fields:=hpl
  have:z.cells=ti.zero.toArray:=by rw[←tk.zcells]
  simp only[tk.info,tk.und,tk.zero,hpl',this]
theorem op_makeFunc {g:Nat}{caps:Array Operand}(ho:o.op= .makeFunc (.func g) #[] caps):OpOK X ops s o {pv:= .clo g (caps.toList.map (ev s))}:=
 opok_read hd fun s' he _ a w c hc=>by
  refine⟨.func (.func g) #[] (caps.toList.map a.eval).toArray,?_,.clo g _ _ (by simp) (fun j d x hj hx=>?_)⟩
  ·have:(caps.toList.map a.eval).toArray=caps.map a.eval:=by rw[←Array.toList_map]
   rw[this]
   simp[execOp,ho,Instr.makeFunc]
  ·simp only[List.getElem?_map,Array.getElem?_toList,Option.map_eq_some_iff]at hj hx
   obtain⟨y,hy,rfl⟩:=hj
   obtain⟨y',hy',rfl⟩:=hx
   rw[hy]at hy'
   cases hy'
   have:=ev_ok hc y
   rwa [he y (by rw[ho];simp[Op.operands,Array.mem_of_getElem? hy])]at this
theorem op_fieldRp {t f off sz k g sz' i j:Nat}{x:Operand}{ti:TI}(ho:o.op= .fieldAddr t x f)(ht:tcheck X.P t=some ti)(hf:ti.fields[f]? =some (off,sz))(hs:sz≠0)(hx:ev s x= .rp k g sz' i j):
 OpOK X ops s o {pv:= .rp k g sz' i (j+off)}:=
 opok_read hd fun s' he _ a w c hc=>by
  have e1:=ev_ok hc x
  rw[he x (by simp[ho,Op.operands]),hx]at e1
  generalize hu:a.eval x=u at e1
  cases e1 with
  |rp _ _ _ _ _ b n cap hb=>
   obtain⟨ii,d,z,tk⟩:=tck ht
   obtain⟨fs,g,jj,rfl,-,q1,q2,q3,q4⟩:=tk.field hf
   have hss:jj.size≠0:=by omega
   exact⟨.pointer (some ⟨b,i*sz'+(j+off),none⟩),by simp[execOp,ho,hu,Instr.fieldAt,run_underlying tk.und,q1,Instr.sureAddr,fieldPlace,sizeOf,typeInfo,q2,hss,q3,Addr.add_lit,Nat.add_assoc],.rp k _ _ _ _ b n cap hb⟩
omit hd in
theorem row_cells {k E sz g:Nat}{rows:List (List PV)}{c:Cx}{w:World}{b n cap:Nat}(hck:ChunkOK c w k (.row E sz g rows))(hb:c.ov k g=some (.slice (some ⟨b,0,none⟩) n cap))(hrow:rows≠[]):
 ∃(cur:Array Value) (xs:List Value),w.heap[b]? =some (.cells cur E (0,0))∧RepPs c w rows.flatten xs∧xs.length=rows.length*sz∧(∀j,j < rows.length*sz→cur[j]? =xs[j]?)∧(∀r∈rows,r.length=sz)∧(∀r∈rows,∀d∈r,d.one=true)∧n=rows.length∧rows.length*sz≤cur.size∧
  cap≤maxLen∧n≤cap∧cur.size=cap*sz:=by
 cases hck with
 |row _ _ _ _ u xs hu hown hr hsz h1 hg=>
  rw[hb]at hu
  cases hu
  generalize hn:rows.length=n' at hown
  cases hown with
  |zero a=>exact absurd (List.eq_nil_of_length_eq_zero hn) hrow
  |row _ _ _ cur _ h0 hh hnc hm hs hl ht=>
   refine⟨cur,xs,hh,hr,hl,fun j hj=>?_,hsz,h1,rfl,?_,hm,hnc,hs⟩
   ·rw[←ht,List.getElem?_take_of_lt hj,Array.getElem?_toList]
   ·rw[hs];exact Nat.mul_le_mul_right sz hnc
omit hd in
theorem own_some {k E sz g:Nat}{rows:List (List PV)}{c:Cx}{w:World}{v:Value}(hck:ChunkOK c w k (.row E sz g rows))(hov:c.ov k g=some v)(hrow:rows≠[]):∃b cap,v= .slice (some ⟨b,0,none⟩) rows.length cap:=by
 cases hck with
 |row _ _ _ _ u xs hu hown hr hsz h1 hg=>
  rw[hov]at hu
  cases hu
  generalize hn:rows.length=n' at hown
  cases hown with
  |nil=>exact absurd (List.eq_nil_of_length_eq_zero hn) hrow
  |zero a=>exact absurd (List.eq_nil_of_length_eq_zero hn) hrow
  |row b n cap=>exact⟨b,cap,rfl⟩
theorem op_indexOwn {t e k g sz:Nat}{x y:Operand}{ti te:TI}{rows:List (List PV)}{kd:IntKind}{n:Int}(ho:o.op= .indexAddr t x y)(ht:tcheck X.P t=some ti)(he':ti.elem=some e)(hte:tcheck X.P e=some te)(hsz:te.size=sz)
 (hx:ev s x= .own k g) (hk:s.heap k= .row e sz g rows) (hy:ev s y= .d (.v (.int kd n))) (hn:0≤n) (hlt:n.toNat < rows.length):OpOK X ops s o {pv:= .rp k g sz n.toNat 0,touch:=[k]}:=
 opok_read hd fun s' he hkk a w c hc=>by
  have e1:=ev_ok hc x
  rw[he x (by simp[ho,Op.operands]),hx]at e1
  have e2:=ev_v' hc ((he y (by simp[ho,Op.operands])).trans hy)
  have hck:=hc.chunk k
  rw[hkk k (by simp),hk]at hck
  generalize hu:a.eval x=u at e1
  obtain⟨i,d,z,tk⟩:=tck ht
  obtain⟨ie,de,ze,tke⟩:=tck hte
  have hde:d= .slice e:=by
   have:=tk.elem
   rw[he']at this
   cases d<;>simp[elemD]at this
   rw[this]
  subst hde
  cases e1 with
  |own _ _ _ hov h1=>
   obtain⟨gb,cap,rfl⟩:=own_some hck hov (fun e=>by rw[e]at hlt;simp at hlt)
   have hcond:0≤n∧n < (rows.length:Int):=⟨hn,by omega⟩
   refine⟨.pointer (some ⟨gb,n.toNat*sz+0,none⟩),?_,.rp k g sz _ _ gb _ cap hov⟩
   simp[execOp,ho,hu,e2,Instr.indexAt,asIntOf,run_underlying tk.und,hcond,sizeOf,typeInfo,tke.info,tke.size,hsz,Addr.add_lit]
omit hd in
theorem row_part {sz i:Nat}{rows:List (List PV)}{row:List PV}{c:Cx}{w:World}{xs:List Value}(h:RepPs c w rows.flatten xs)(hsz:∀r∈rows,r.length=sz)(hrow:rows[i]? =some row)(hl:xs.length=rows.length*sz):RepPs c w row ((xs.drop (i*sz)).take sz):=by
 have hi:i < rows.length:=(List.getElem?_eq_some_iff.1 hrow).1
 have hrl:row.length=sz:=hsz row (List.mem_of_getElem? hrow)
 have hlim:(i+1)*sz≤rows.length*sz:=Nat.mul_le_mul_right sz hi
 rw[Nat.succ_mul]at hlim
 refine⟨by rw[List.length_take,List.length_drop];omega,fun j d x hj hx=>?_⟩
 obtain⟨hlt,hx⟩:=take_drop_at hx
 exact h.2 _ d x (by rw[flatten_atG hsz i j hlt,hrow];exact hj) hx
theorem op_loadRp {t k g sz i j E:Nat}{x:Operand}{ti:TI}{rows:List (List PV)}{row:List PV}{p:PV}(ho:o.op= .load t x)(ht:tcheck X.P t=some ti)(hx:ev s x= .rp k g sz i j)(hk:s.heap k= .row E sz g rows)(hrow:rows[i]? =some row)(hsz:j+ti.size≤sz)
 (hp:(ti.agg=true∧p=aggP ((row.drop j).take ti.size))∨(ti.agg=false∧ti.size=1∧row[j]? =some p)):OpOK X ops s o {pv:=p,touch:=[k]}:=
 opok_read hd fun s' he hkk a w c hc=>by
  have e1:=ev_ok hc x
  rw[he x (by simp[ho,Op.operands]),hx]at e1
  have hck:=hc.chunk k
  rw[hkk k (by simp),hk]at hck
  generalize hu:a.eval x=u at e1
  cases e1 with
  |rp _ _ _ _ _ b n cap hb=>
   obtain⟨cur,xs,q1,q2,q3,q4,q5,q6,q7,q8,-⟩:=row_cells hck hb (fun e=>by rw[e]at hrow;cases hrow)
   have hi:i < rows.length:=(List.getElem?_eq_some_iff.1 hrow).1
   have hrl:row.length=sz:=q5 row (List.mem_of_getElem? hrow)
   have hlim:(i+1)*sz≤rows.length*sz:=Nat.mul_le_mul_right sz hi
   rw[Nat.succ_mul]at hlim
   have hpart:=row_part q2 q5 hrow q3
   generalize hys:(xs.drop (i*sz)).take sz=ys at hpart
   have hyl:ys.length=sz:=by rw[←hpart.1,hrl]
   have hcell:∀j' v,ys[j']? =some v→cur[i*sz+j']? =some v:=by
    intro j' v hj'
    rw[←hys]at hj'
    obtain⟨hlt,hj'⟩:=take_drop_at hj'
    rw[q4 _ (by omega),hj']
   have hrun:=run_loadAt ht w b (i*sz+j) ((ys.drop j).take ti.size) (by rw[List.length_take,List.length_drop];omega) (fun j' v hj'=>by
    have:=hcell _ v (take_drop_at hj').2
    simp only[World.cell?,q1]
    rw[Nat.add_assoc,this]
    simp)
   rcases hp with⟨hag,rfl⟩|⟨hag,hs1,hp⟩
   ·refine⟨.agg ((ys.drop j).take ti.size).toArray,?_,rep_aggP (hpart.part j ti.size) (fun d hd=>q6 row (List.mem_of_getElem? hrow) d (List.mem_of_mem_drop (List.mem_of_mem_take hd)))⟩
    have:=hrun (fun h=>by rw[hag]at h;cases h)
    rw[hag,if_pos rfl]at this
    simp only[execOp,ho,hu]
    rw[Sem.run_bind,this]
    rfl
   ·obtain⟨v,hv⟩:∃v,ys[j]? =some v:=⟨ys[j]'(by omega),List.getElem?_eq_getElem _⟩
    have hone:(ys.drop j).take ti.size=[v]:=by
     rw[hs1,List.drop_eq_getElem_cons (by omega)]
     simp only[List.take_succ_cons,List.take_zero]
     rw[List.getElem?_eq_getElem (by omega)]at hv
     simpa using hv
    refine⟨v,?_,hpart.2 j p v hp hv⟩
    have:=hrun (fun _=>⟨v,hone⟩)
    rw[hag,hone]at this
    simp only[execOp,ho,hu]
    rw[Sem.run_bind,this]
    rfl
theorem op_lenOwn {t k g sz E:Nat}{x:Operand}{e:Nat}{ti:TI}{rows:List (List PV)}(ho:o.op= .call {callee:= .builtin .len,args:=#[x],argTypes:=#[t]})(ht:tcheck X.P t=some ti)(he':ti.elem=some e)(hx:ev s x= .own k g)(hk:s.heap k= .row E sz g rows):
 OpOK X ops s o {pv:= .d (.v (.int .i64 rows.length)),touch:=[k]}:=
 opok_read hd fun s' he hkk a w c hc=>by
  have e1:=ev_ok hc x
  rw[he x (by simp[ho,Op.operands,Call.operands]),hx]at e1
  have hck:=hc.chunk k
  rw[hkk k (by simp),hk]at hck
  generalize hu:a.eval x=u at e1
  obtain⟨i,dd,z,tk⟩:=tck ht
  have hde:dd= .slice e:=by
   have:=tk.elem
   rw[he']at this
   cases dd<;>simp[elemD]at this
   rw[this]
  subst hde
  cases e1 with
  |own _ _ _ hov h1=>
   cases hck with
   |row _ _ _ _ u' xs hu' hown hr hszr h1 hg=>
    rw[hov]at hu'
    cases hu'
    refine⟨.int .i64 rows.length,?_,.d _ _ (.v _)⟩
    generalize hn:rows.length=n' at hown
    cases hown<;>simp[execOp,ho,hu,resolve,invoke,builtin,Builtin.len_,run_underlying tk.und,goInt]
end
section
variable {X:Cfg}{ops:Array Oper}{s:FS}{o:Oper}(hd:∀d,o.dst=some d→d < X.n)
include hd
theorem op_alloc {t nk:Nat}{ti:TI}(ho:o.op= .alloc t)(ht:tcheck X.P t=some ti)(hk:s.heap nk= .none)(hkm:¬nk < X.m):OpOK X ops s o {pv:= .ptr nk 0,eff:=[(nk,.box t (ti.zero.map fun x=> .d (.v x)))],touch:=[nk]}:=
 opok_gen hd (fun kc h=>by simp at h;subst h;simp) fun s' he hkk a w c hc=>by
  obtain⟨i,d,z,tk⟩:=tck ht
  have hr:RepPs c w (ti.zero.map fun x=> .d (.v x)) ti.zero:=by
   have:=repPs_d (c:=c) (repDs_v (M:=c.M) (w:=w) ti.zero)
   rwa [List.map_map]at this
  obtain⟨c',h1,h2⟩:=hc.new_box (k:=nk) (by rw[hkk nk (by simp)];exact hk) hkm t _ ti.zero hr (fun d hd=>by
   obtain⟨x,hx,rfl⟩:=List.mem_map.1 hd
   exact tk.one x hx)
  refine⟨_,_,_,?_,.inl rfl,c',h1,h2⟩
  have hz:z.cells=ti.zero.toArray:=by rw[←tk.zcells]
  have hrun:(Instr.alloc t true (.tuple #[])).run X.P w= .ok (.pointer (some ⟨w.heap.size,0,none⟩)) (w.alloc (.cells ti.zero.toArray t)):=by
   rw[←hz]
   have hnew:∀o:Obj,({w with heap:=w.heap.push o}:World)=w.alloc o:=fun o=>(World.alloc_eq w o)
   simp[Instr.alloc,zeroValue,typeInfo,tk.info,tk.zero,newVar,newRow,newObj,Sem.run,hnew]
  simp only[execOp,ho]
  rw[Sem.run_bind,hrun]
  rfl
theorem op_box {t nk:Nat}{x:Operand}(ho:o.op= .box t x)(hk:s.heap nk= .none)(hkm:¬nk < X.m)(hx:okP (ev s x)=true):OpOK X ops s o {pv:= .ptr nk 0,eff:=[(nk,.box t (cellsP (ev s x)))],touch:=[nk]}:=
 opok_gen hd (fun kc h=>by simp at h;subst h;simp) fun s' he hkk a w c hc=>by
  have e1:=ev_ok hc x
  rw[he x (by simp[ho,Op.operands])]at e1
  obtain⟨r1,r2⟩:=cells_rep e1 hx
  obtain⟨c',h1,h2⟩:=hc.new_box (k:=nk) (by rw[hkk nk (by simp)];exact hk) hkm t _ _ r1 r2
  refine⟨_,_,_,?_,.inl rfl,c',h1,h2⟩
  have hrun:(Instr.box t (a.eval x)).run X.P w= .ok (.pointer (some ⟨w.heap.size,0,none⟩)) (w.alloc (.cells (a.eval x).cells.toList.toArray t)):=by
   have hnew:∀o:Obj,({w with heap:=w.heap.push o}:World)=w.alloc o:=fun o=>(World.alloc_eq w o)
   simp[Instr.box,newVar,newRow,newObj,Sem.run,hnew]
  simp only[execOp,ho]
  rw[Sem.run_bind,hrun]
  rfl
theorem op_store {t k off T:Nat}{x y:Operand}{ti:TI}{cells:List PV}(ho:o.op= .store t x y)(hdst:o.dst=none)(ht:tcheck X.P t=some ti)(hx:ev s x= .ptr k off)(hk:s.heap k= .box T cells)(hy:okP (ev s y)=true)
 (hl:(cellsP (ev s y)).length=ti.size) (hsz:off+ti.size≤cells.length):OpOK X ops s o {pv:= .any,eff:=[(k,.box T (setAt cells off (cellsP (ev s y))))],touch:=[k]}:=
 opok_gen hd (fun kc h=>by simp at h;subst h;simp) fun s' he hkk a w c hc=>by
  have e1:=ev_ok hc x
  rw[he x (by simp[ho,Op.operands]),hx]at e1
  have e2:=ev_ok hc y
  rw[he y (by simp[ho,Op.operands])]at e2
  obtain⟨r1,r2⟩:=cells_rep e2 hy
  have hone:=RepPs.one r1 r2
  have hk':s'.heap k= .box T cells:=by rw[hkk k (by simp)];exact hk
  have hck:=hc.chunk k
  rw[hk']at hck
  generalize hu:a.eval x=u at e1
  cases e1 with
  |ptr _ _ b hb=>
   cases hck with
   |box _ _ b' vs hb' hh hr h1=>
    rw[hb]at hb'
    cases hb'
    obtain⟨i,d,z,tk⟩:=tck ht
    have hvl:vs.length=cells.length:=hr.1.symm
    have hyl:(a.eval y).cells.size=ti.size:=by have:=r1.1;simp at this;omega
    have hset:=repPs_set (off:=off) hr r1 (by omega)
    have h3:=hc.set_box hk' hb hh hset (fun d hd=>(mem_setAt hd).elim (h1 d) (r2 d))
    refine⟨.skip,undef,_,?_,.inr ⟨rfl,rfl⟩,c,h3,.any _⟩
    have hst:=run_storeCells_at X.P b off T (a.eval y).cells.toList 0 vs.toArray w hh (by simp;omega) hone
    have hst2:(storeCells ⟨b,off,none⟩ (a.eval y).cells.toList).run X.P w= .ok () (w.setRow b (setAt vs off (a.eval y).cells.toList).toArray):=by
     rw[hst]
     simp[setAt]
    have hrun:(Instr.storeAt t (a.eval x) (a.eval y)).run X.P w= .ok () (w.setRow b (setAt vs off (a.eval y).cells.toList).toArray):=by
     rw[hu]
     simp[Instr.storeAt,Instr.sureAddr,storeVar,sizeOf,typeInfo,tk.info,tk.size,hyl,hst2]
    simp only[execOp,ho]
    rw[Sem.run_bind,hrun]
    rfl
omit hd in
theorem flatten_len {α:Type}{sz:Nat}:∀{rows:List (List α)},(∀r∈rows,r.length=sz)→rows.flatten.length=rows.length*sz
 |[],_=>by simp
 |r::rows,h=>by
  rw[List.flatten_cons,List.length_append,h r (by simp),flatten_len (fun r hr=>h r (by simp[hr])),List.length_cons,Nat.succ_mul]
  omega
omit hd in
theorem sl_cells {M:Nat→Prop}{w:World}{sz:Nat}{rows:List (List D)}{ad:Addr}{n cap:Nat}(hs:0 < sz)(h:RepD M w (.sl sz rows) (.slice (some ad) n cap)):
 ∃xs:List Value,xs.length=n*sz∧n=rows.length∧RepDs M w rows.flatten xs∧(∀j u,xs[j]? =some u→w.cell? (ad.add j)=some u)∧(∀u∈xs,u.oneCell'=true)∧(∀r∈rows,r.length=sz)∧(∀r∈rows,∀d∈r,d.one=true):=by
 cases h with
 |nil _ _ _ hm=>exact⟨[],by simp,rfl,⟨rfl,fun j d x h=>by simp at h⟩,fun j u h=>by simp at h,fun u h=>by simp at h,fun r h=>by simp at h,fun r h=>by simp at h⟩
 |sl _ _ b off cap f hM hb hc hm hr h1 hcell hrep=>
  have hdm:∀j,j < rows.length*sz→j / sz < rows.length∧j % sz < sz∧j / sz*sz+j % sz=j:=fun j hj=>
   ⟨Nat.div_lt_of_lt_mul (by rw[Nat.mul_comm];exact hj),Nat.mod_lt _ hs,by rw[Nat.mul_comm];exact Nat.div_add_mod j sz⟩
  have hget:∀j u,((List.range (rows.length*sz)).map fun j=>f (j / sz) (j % sz))[j]? =some u→j < rows.length*sz∧u=f (j / sz) (j % sz):=by
   intro j u hj
   simp only[List.getElem?_map,Option.map_eq_some_iff]at hj
   obtain⟨y,hy,rfl⟩:=hj
   have hj':j < rows.length*sz:=by
    rcases Nat.lt_or_ge j (rows.length*sz)with h|h
    ·exact h
    ·rw[List.getElem?_eq_none (by simpa using h)]at hy;cases hy
   rw[List.getElem?_range hj']at hy
   cases hy
   exact⟨hj',rfl⟩
  have hrd:RepDs M w rows.flatten ((List.range (rows.length*sz)).map fun j=>f (j / sz) (j % sz)):=by
   refine⟨by rw[flatten_len hr];simp,fun j d x hj hx=>?_⟩
   obtain⟨hj',rfl⟩:=hget j x hx
   obtain⟨q1,q2,q3⟩:=hdm j hj'
   rw[←q3,flatten_atG hr _ _ q2]at hj
   cases hrow:rows[j / sz]? with
   |none=>rw[hrow]at hj;cases hj
   |some row=>
    rw[hrow]at hj
    exact hrep _ _ row d hrow hj
  refine⟨_,by simp,rfl,hrd,fun j u hj=>?_,RepDs.one hrd (fun d hd=>?_),hr,h1⟩
  ·obtain⟨hj',rfl⟩:=hget j u hj
   obtain⟨q1,q2,q3⟩:=hdm j hj'
   rw[Addr.add_lit]
   have:=hcell _ _ q1 q2
   rwa [Nat.add_assoc,q3]at this
  ·obtain⟨r,hr',hdr⟩:=List.mem_flatten.1 hd
   exact h1 r hr' d hdr
omit hd in
theorem append_where {P:Program}{w:World}(base:Nat)(t ty e:TypeId)(i:TypeInfo)(z:Value)(size bytes:Nat)(ht:P.underlying t=some (.slice e))(hi:P.info? e=some i)(hz:i.zero=some z)
 (hsize:i.size=size) (hby:i.bytes=bytes) (hzs:z.cells.size=size) (hsz:0 < size) (v:Value) (n:Nat) (xs:List Value) (hown:w.ownsRow base e size v n xs)
 (a:Addr) (m c:Nat) (news:List Value) (hl:news.length=m*size) (hnews:∀j u,news[j]? =some u→w.cell? (a.add j)=some u) (h1:∀u∈news,u.oneCell'=true)
 (h63:n+m≤maxLen) (hbytes:(n+m)*bytes≤140737488355328) {v':Value}{w':World} (hrun:(Builtin.append_ #[t,t] ty #[v,.slice (some a) m c]).run P w= .ok v' w'):
 v'.ownBlock=v.ownBlock∨∀b,v'.ownBlock=some b→w.heap.size≤b:=by
 subst hsize
 subst hby
 simp only[maxLen]at h63
 rcases hown.2 with⟨rfl,rfl⟩|⟨g,cap,cur,rfl,hbg,hg,hnc,hcm,hcs,htake⟩
 ·by_cases hm:m=0
  ·subst hm
   have hn:news=[]:=List.eq_nil_of_length_eq_zero (by simpa using hl)
   have:(Builtin.append_ #[t,t] ty #[.slice none 0 0,.slice (some a) 0 c]).run P w= .ok (.slice none 0 0) w:=by
    simp[Builtin.append_,run_underlying ht,sizeOf,typeInfo,hi,Builtin.lenOf,Builtin.firstCells,loadCells,loadCellsFrom]
   rw[this]at hrun
   cases hrun
   exact .inl rfl
  ·have hr:=run_append_nil (P:=P) w t ty e i z ht hi hz a m c news hl hnews (by omega) (by omega) (by have hb:=hbytes;simp only[Nat.zero_add]at hb;omega)
   rw[hr]at hrun
   cases hrun
   refine .inr fun b hb=>?_
   simp[Value.ownBlock]at hb
   omega
 ·by_cases hroom:n+m≤cap
  ·have hfit:n*i.size+news.length≤cur.size:=by rw[hl,hcs,←Nat.add_mul];exact Nat.mul_le_mul_right _ hroom
   have hr:=run_append_room (P:=P) w t ty e i ht hi g n cap cur hg a m c news hl hnews h1 hroom hfit
   rw[hr]at hrun
   cases hrun
   exact .inl rfl
  ·have holds:∀j u,xs[j]? =some u→w.cell? ((⟨g,0,none⟩:Addr).add j)=some u:=hown.cells (g:=g) rfl
   have hr:=run_append_grow (P:=P) w t ty e i z ht hi hz ⟨g,0,none⟩ n cap xs hown.1 holds a m c news hl hnews (by omega) (by omega) (growslice_fits (by omega) hbytes)
   rw[hr]at hrun
   cases hrun
   refine .inr fun b hb=>?_
   simp[Value.ownBlock]at hb
   omega
omit hd in
theorem OwnV.of_row {w:World}{base E sz:Nat}{v:Value}{n:Nat}{xs:List Value}(h:w.ownsRow base E sz v n xs):OwnV w E sz v n xs:=by
 have hl:=h.1
 rcases h.2 with⟨rfl,rfl⟩|⟨g,cap,cur,rfl,hbg,hg,hnc,hcm,hcs,ht⟩
 ·have:xs=[]:=List.eq_nil_of_length_eq_zero (by simpa using hl)
  subst this
  exact .nil
 ·rcases Nat.eq_zero_or_pos cap with h0|h0
  ·subst h0
   have hn:n=0:=by omega
   subst hn
   have:xs=[]:=List.eq_nil_of_length_eq_zero (by simpa using hl)
   subst this
   exact .zero _
  ·exact .row g n cap cur xs h0 hg hnc hcm hcs hl ht
omit hd in
theorem ownB_pos {a:Addr}{n cap:Nat}(h:0 < cap):ownB (.slice (some a) n cap)=some a.block:=by
 obtain⟨cap,rfl⟩:∃c,cap=c+1:=⟨cap - 1,by omega⟩
 rfl
omit hd in
theorem run_append_V {P:Program}{w:World}(t ty e:TypeId)(i:TypeInfo)(z:Value)(size bytes:Nat)(ht:P.underlying t=some (.slice e))(hi:P.info? e=some i)(hz:i.zero=some z)
 (hsize:i.size=size) (hby:i.bytes=bytes) (hzs:z.cells.size=size) (hsz:0 < size) (v:Value) (n:Nat) (xs:List Value) (hown:OwnV w e size v n xs)
 (a:Addr) (m c:Nat) (news:List Value) (hl:news.length=m*size) (hnews:∀j u,news[j]? =some u→w.cell? (a.add j)=some u) (h1:∀u∈news,u.oneCell'=true)
 (h63:n+m≤maxLen) (hbytes:(n+m)*bytes≤140737488355328):
 ∃v' w',(Builtin.append_ #[t,t] ty #[v,.slice (some a) m c]).run P w= .ok v' w'∧OwnV w' e size v' (n+m) (xs++news)∧OneB w w' (ownB v)∧(ownB v'=ownB v∨∀b,ownB v'=some b→w.heap.size≤b):=by
 have main:∀u,w.ownsRow 0 e size u n xs→(u= .slice none 0 0∨∃g cap,0 < cap∧u= .slice (some ⟨g,0,none⟩) n cap)→
  ∃v' w',(Builtin.append_ #[t,t] ty #[u,.slice (some a) m c]).run P w= .ok v' w'∧OwnV w' e size v' (n+m) (xs++news)∧OneB w w' (ownB u)∧(ownB v'=ownB u∨∀b,ownB v'=some b→w.heap.size≤b):=by
  intro u hu hk
  obtain⟨v',w',hrun,hown',hgr,-⟩:=run_append_own (P:=P) w 0 t ty e i z size bytes ht hi hz hsize hby hzs hsz u n xs hu a m c news hl hnews h1 h63 hbytes (Nat.zero_le _)
  have hwh:=append_where (P:=P) (w:=w) 0 t ty e i z size bytes ht hi hz hsize hby hzs hsz u n xs hu a m c news hl hnews h1 h63 hbytes hrun
  have hb:u.ownBlock=ownB u:=by
   rcases hk with rfl|⟨g,cap,h0,rfl⟩
   ·rfl
   ·rw[ownB_pos h0];rfl
  have hb2:∀b,ownB v'=some b→v'.ownBlock=some b:=by
   intro b hb
   cases v' with
   |slice ao k cap=>
    cases ao with
    |none=>cases hb
    |some ad=>cases cap with
     |zero=>cases hb
     |succ cap=>exact hb
   |_=>cases hb
  refine⟨v',w',hrun,.of_row hown',⟨hgr.os,hgr.tape,hgr.output,hgr.size,fun b hb' hne=>hgr.block b hb' (fun e=>hne (by rw[←hb];exact e.symm))⟩,?_⟩
  rcases hwh with hw|hw
  ·by_cases hv0:∃b,ownB v'=some b
   ·obtain⟨b,hvb⟩:=hv0
    exact .inl (by rw[←hb,←hw,hvb,hb2 b hvb])
   ·exact .inr fun b hb=>absurd ⟨b,hb⟩ hv0
  ·exact .inr fun b hb=>hw b (hb2 b hb)
 cases hown with
 |nil=>exact main _ (World.ownsRow_nil w 0 e size) (.inl rfl)
 |row g n cap cur xs h0 hh hn hm hs hl ht=>exact main _ ⟨hl,.inr ⟨g,cap,cur,rfl,Nat.zero_le _,hh,hn,hm,hs,ht⟩⟩ (.inr ⟨g,cap,h0,rfl⟩)
 |zero ad=>
  by_cases hm:m=0
  ·subst hm
   have hn:news=[]:=List.eq_nil_of_length_eq_zero (by simpa using hl)
   subst hn
   refine⟨.slice (some ad) 0 0,w,?_,.zero ad,⟨rfl,rfl,rfl,Nat.le_refl _,fun _ _ _=>rfl⟩,.inl rfl⟩
   simp[Builtin.append_,run_underlying ht,sizeOf,typeInfo,hi,Builtin.lenOf,Builtin.firstCells,loadCells,loadCellsFrom,storeCells]
  ·simp only[maxLen]at h63
   have hn0:=run_append_nil (P:=P) w t ty e i z ht hi hz a m c news (by rw[hsize];exact hl) hnews (by omega) (by omega) (by rw[hby];simp only[Nat.zero_add]at hbytes;omega)
   have hg:=run_append_grow (P:=P) w t ty e i z ht hi hz ad 0 0 [] (by simp) (fun j v h=>by simp at h) a m c news (by rw[hsize];exact hl) hnews (by omega) (by omega)
    (by rw[hby];exact growslice_fits (by omega) hbytes)
   obtain⟨v',w',g1,g2,g3,g4⟩:=main _ (World.ownsRow_nil w 0 e size) (.inl rfl)
   rw[hn0]at g1
   simp only[Nat.zero_add]at hg
   have e2:(#[]++news.toArray++Builtin.zeroCells z.cells (grownCap w m 0 e - m))=news.toArray++Builtin.zeroCells z.cells (grownCap w m 0 e - m):=by simp
   rw[show ([]:List Value).toArray=#[] from rfl,e2,g1]at hg
   exact⟨v',w',hg,g2,g3,g4⟩
omit hd in
theorem run_append_Vnone {P:Program}{w:World}(t ty e:TypeId)(i:TypeInfo)(size:Nat)(ht:P.underlying t=some (.slice e))(hi:P.info? e=some i)(v:Value)(n:Nat)(xs:List Value)(hown:OwnV w e size v n xs)(c:Nat):
 (Builtin.append_ #[t,t] ty #[v,.slice none 0 c]).run P w= .ok v w:=by
 cases hown with
 |nil=>simp[Builtin.append_,run_underlying ht,sizeOf,typeInfo,hi,Builtin.lenOf,Builtin.firstCells]
 |zero a=>simp[Builtin.append_,run_underlying ht,sizeOf,typeInfo,hi,Builtin.lenOf,Builtin.firstCells,storeCells]
 |row g n cap cur xs h0 hh hn hm hs hl htk=>simp[Builtin.append_,run_underlying ht,sizeOf,typeInfo,hi,Builtin.lenOf,Builtin.firstCells,hn,storeCells]
omit hd in
theorem dRows_mem {rows:List (List D)}{r:List PV}(h:r∈dRows rows):∃q∈rows,r=q.map .d:=by
 obtain⟨q,hq,rfl⟩:=List.mem_map.1 h
 exact⟨q,hq,rfl⟩
omit hd in
theorem dRows_flatten (rows:List (List D)):(dRows rows).flatten=rows.flatten.map .d:=by
 simp[dRows,List.map_flatten]
inductive SrcP (s:FS) (sz:Nat):PV→List (List PV)→List Nat→Prop
 |sl (news:List (List D)):SrcP s sz (.d (.sl sz news)) (dRows news) []
 |nil (ao:Option Addr) (c:Nat):SrcP s sz (.d (.v (.slice ao 0 c))) [] []
 |own (k g E:Nat) (rows:List (List PV)) (h:s.heap k= .row E sz g rows):SrcP s sz (.own k g) rows [k]
 |osl (k g E a n:Nat) (rows:List (List PV)) (h:s.heap k= .row E sz g rows):SrcP s sz (.osl k g sz a n) ((rows.drop a).take n) [k]
omit hd in
theorem flatten_drop {α:Type}{sz:Nat}:∀{rows:List (List α)},(∀r∈rows,r.length=sz)→∀a,(rows.drop a).flatten=rows.flatten.drop (a*sz)
 |rows,_,0=>by simp
 |[],_,a+1=>by simp
 |r::rows,h,a+1=>by
  have hr:=h r (by simp)
  rw[List.drop_succ_cons,flatten_drop (fun r hr=>h r (by simp[hr])) a,List.flatten_cons,Nat.succ_mul,List.drop_append,List.drop_of_length_le (l:=r) (by omega),List.nil_append,hr]
  congr 1;omega
omit hd in
theorem flatten_take {α:Type}{sz:Nat}:∀{rows:List (List α)},(∀r∈rows,r.length=sz)→∀a,(rows.take a).flatten=rows.flatten.take (a*sz)
 |rows,_,0=>by simp
 |[],_,a+1=>by simp
 |r::rows,h,a+1=>by
  have hr:=h r (by simp)
  rw[List.take_succ_cons,List.flatten_cons,List.flatten_cons,flatten_take (fun r hr=>h r (by simp[hr])) a,Nat.succ_mul,List.take_append,List.take_of_length_le (l:=r) (by omega),hr]
  congr 2;omega
omit hd in
theorem src_ok {s s':FS}{sz:Nat}{y:PV}{news:List (List PV)}{ty:List Nat}(h:SrcP s sz y news ty)(hs0:0 < sz)(hkk:∀k∈ty,s'.heap k=s.heap k){a:Act}{w:World}{c:Cx}(hc:RealC X s' a w c){v:Value}(hr:RepP c w y v):
 (∀r∈news,r.length=sz)∧(∀r∈news,∀d∈r,d.one=true)∧((∃c0,v= .slice none 0 c0∧news=[])∨
  ∃(ad:Addr) (cap:Nat) (ys:List Value),v= .slice (some ad) news.length cap∧ys.length=news.length*sz∧(∀j u,ys[j]? =some u→w.cell? (ad.add j)=some u)∧(∀u∈ys,u.oneCell'=true)∧RepPs c w news.flatten ys):=by
 cases h with
 |sl news=>
  have hr:=repD_inv hr
  have some_case:∀(ad:Addr) (n cap:Nat),RepD c.M w (.sl sz news) (.slice (some ad) n cap)→_:=fun ad n cap h=>sl_cells hs0 h
  have rows_ok:(∀r∈news,r.length=sz)→(∀r∈news,∀d∈r,d.one=true)→(∀r∈dRows news,r.length=sz)∧(∀r∈dRows news,∀d∈r,d.one=true):=fun g1 g2=>by
   refine⟨fun r hr=>?_,fun r hr d hd=>?_⟩
   ·obtain⟨q,hq,rfl⟩:=dRows_mem hr
    simpa using g1 q hq
   ·obtain⟨q,hq,rfl⟩:=dRows_mem hr
    obtain⟨x,hx,rfl⟩:=List.mem_map.1 hd
    exact g2 q hq x hx
  have hlen:(dRows news).length=news.length:=by simp[dRows]
  cases hr with
  |nil _ ao cap hm=>
   refine⟨fun r h=>by simp[dRows]at h,fun r h=>by simp[dRows]at h,?_⟩
   cases ao with
   |none=>exact .inl ⟨cap,rfl,rfl⟩
   |some ad=>exact .inr ⟨ad,cap,[],rfl,by simp[dRows],fun j u h=>by simp at h,fun u h=>by simp at h,⟨rfl,fun j d x h=>by simp[dRows]at h⟩⟩
  |sl _ _ b off cap f a1 a2 a3 a4 a5 a6 a7 a8=>
   obtain⟨ys,y1,-,y2,y3,y4,y5,y6⟩:=sl_cells (w:=w) hs0 (RepD.sl (M:=c.M) sz news b off cap f a1 a2 a3 a4 a5 a6 a7 a8)
   obtain⟨q1,q2⟩:=rows_ok y5 y6
   exact⟨q1,q2,.inr ⟨⟨b,off,none⟩,cap,ys,by rw[hlen],by rw[hlen];exact y1,y3,y4,by rw[dRows_flatten];exact repPs_d y2⟩⟩
 |nil ao c=>
  have hr:=repD_inv hr
  cases hr
  cases ao with
  |none=>exact⟨fun r h=>by simp at h,fun r h=>by simp at h,.inl ⟨c,rfl,rfl⟩⟩
  |some ad=>exact⟨fun r h=>by simp at h,fun r h=>by simp at h,.inr ⟨ad,c,[],rfl,by simp,fun j u h=>by simp at h,fun u h=>by simp at h,⟨rfl,fun j d x h=>by simp at h⟩⟩⟩
 |own k g E rows hk=>
  have hck:=hc.chunk k
  rw[hkk k (by simp),hk]at hck
  cases hr with
  |own _ _ _ hov _=>
   cases hck with
   |row _ _ _ _ u xs hu hown hrr hsz h1 hg=>
    rw[hov]at hu
    cases hu
    refine⟨hsz,h1,?_⟩
    have hone:=RepPs.one hrr (fun d hd=>by obtain⟨r,hr,hd⟩:=List.mem_flatten.1 hd;exact h1 r hr d hd)
    generalize hn:news.length=n' at hown
    cases hown with
    |nil=>exact .inl ⟨0,rfl,List.eq_nil_of_length_eq_zero hn⟩
    |zero ad=>exact .inr ⟨ad,0,[],rfl,by simp,fun j u h=>by simp at h,fun u h=>by simp at h,hrr⟩
    |row gb _ cap cur _ h0 hh hnc hm hs hl ht=>
     refine .inr ⟨⟨gb,0,none⟩,cap,xs,rfl,hl,fun j u hj=>?_,hone,hrr⟩
     rw[Addr.add_lit]
     have hlt:j < n'*sz:=by rw[←hl];exact(List.getElem?_eq_some_iff.1 hj).1
     rw[←ht,List.getElem?_take_of_lt hlt,Array.getElem?_toList]at hj
     simp[World.cell?,hh,hj]
 |osl k g E st m rows hk=>
  have hck:=hc.chunk k
  rw[hkk k (by simp),hk]at hck
  cases hr with
  |osl _ _ _ _ _ b o N cap hov hn hcN ho=>
   cases hck with
   |row _ _ _ _ u xs hu hown hrr hsz h1 hg=>
    rw[hov]at hu
    cases hu
    have hone:=RepPs.one hrr (fun d hd=>by obtain⟨r,hr,hd⟩:=List.mem_flatten.1 hd;exact h1 r hr d hd)
    refine⟨fun r hr=>hsz r (List.mem_of_mem_drop (List.mem_of_mem_take hr)),fun r hr=>h1 r (List.mem_of_mem_drop (List.mem_of_mem_take hr)),.inr ⟨⟨b,o,none⟩,cap - st,(xs.drop (st*sz)).take (m*sz),?_⟩⟩
    have hN:N=rows.length:=by
     have:=hown
     generalize rows.length=n' at this
     cases this<;>rfl
    have hln:((rows.drop st).take m).length=m:=by rw[List.length_take,List.length_drop];omega
    have hxl:=hown.len
    have hmul:(st+m)*sz≤rows.length*sz:=Nat.mul_le_mul_right sz (by omega)
    rw[Nat.add_mul]at hmul
    refine⟨by rw[hln],by rw[hln,List.length_take,List.length_drop];omega,fun j u hj=>?_,fun u hu=>hone u (List.mem_of_mem_drop (List.mem_of_mem_take hu)),?_⟩
    ·have hlt:j < m*sz:=by
      have:=(List.getElem?_eq_some_iff.1 hj).1
      rw[List.length_take]at this;omega
     rw[List.getElem?_take_of_lt hlt,List.getElem?_drop]at hj
     have hm0:0 < m:=by
      rcases Nat.eq_zero_or_pos m with h|h
      ·subst h;simp at hlt
      ·exact h
     rw[Addr.add_lit,ho (by omega)]
     generalize hnn:rows.length=n' at hown
     cases hown with
     |zero=>simp at hnn;omega
     |row _ _ _ cur _ h0 hh hnc hm hs hl ht=>
      rw[←ht,List.getElem?_take_of_lt (by rw[hnn]at hmul;omega),Array.getElem?_toList]at hj
      simp[World.cell?,hh,hj]
    ·rw[flatten_take (fun r hr=>hsz r (List.mem_of_mem_drop hr)),flatten_drop hsz]
     exact hrr.part _ _
omit hd in
theorem repPs_app {c:Cx}{w:World}{ds es:List PV}{vs us:List Value}(h:RepPs c w ds vs)(g:RepPs c w es us):RepPs c w (ds++es) (vs++us):=by
 refine⟨by simp[h.1,g.1],fun j d x hj hx=>?_⟩
 by_cases hlt:j < ds.length
 ·rw[List.getElem?_append_left hlt]at hj
  rw[List.getElem?_append_left (by rw[←h.1];exact hlt)]at hx
  exact h.2 j d x hj hx
 ·rw[List.getElem?_append_right (by omega)]at hj
  rw[List.getElem?_append_right (by rw[←h.1];omega),←h.1]at hx
  exact g.2 _ d x hj hx
theorem op_append {t e k sz g:Nat}{x y:Operand}{ti te:TI}{rows news:List (List PV)}{tyy:List Nat}(ho:o.op= .call {callee:= .builtin .append,args:=#[x,y],argTypes:=#[t,t]})(ht:tcheck X.P t=some ti)(he':ti.elem=some e)(hte:tcheck X.P e=some te)
 (hsz:te.size=sz) (hs0:0 < sz) (hx:ev s x= .own k g) (hk:s.heap k= .row e sz g rows) (hy:SrcP s sz (ev s y) news tyy)
 (hlen:rows.length+news.length≤9223372036854775807) (hby:(rows.length+news.length)*te.bytes≤140737488355328):
 OpOK X ops s o {pv:= .own k (g+1),eff:=[(k,.row e sz (g+1) (rows++news))],touch:=k::tyy}:=
 opok_gen hd (fun kc h=>by simp at h;subst h;simp) fun s' he hkk a w c hc=>by
  have e1:=ev_ok hc x
  rw[he x (by simp[ho,Op.operands,Call.operands]),hx]at e1
  have e2:=ev_ok hc y
  rw[he y (by simp[ho,Op.operands,Call.operands])]at e2
  have hk':s'.heap k= .row e sz g rows:=by rw[hkk k (by simp)];exact hk
  have hck:=hc.chunk k
  rw[hk']at hck
  obtain⟨i,d,z,tk⟩:=tck ht
  obtain⟨ie,de,ze,tke⟩:=tck hte
  have hde:d= .slice e:=by
   have:=tk.elem
   rw[he']at this
   cases d<;>simp[elemD]at this
   rw[this]
  subst hde
  have hzs:ze.cells.size=sz:=by rw[←hsz,←tke.zsize,←tke.zcells];simp
  have hexec:∀u v,a.eval x=u→a.eval y=v→∀v' w',(Builtin.append_ #[t,t] o.type #[u,v]).run X.P w= .ok v' w'→(execOp a.eval o).run X.P w= .ok (.value v') w':=by
   intro u v hu hv v' w' hr
   simp[execOp,ho,resolve,hu,hv,invoke,builtin,hr]
  generalize hu:a.eval x=u at e1
  generalize hv:a.eval y=v at e2
  obtain⟨n1,n2,hsrc⟩:=src_ok hy hs0 (fun k hk=>hkk k (List.mem_cons_of_mem _ hk)) hc e2
  cases e1 with
  |own _ _ _ hov hv1=>
   cases hck with
   |row _ _ _ _ u' xs hu' hown hr hszr h1 hg=>
    rw[hov]at hu'
    cases hu'
    rcases hsrc with⟨c0,rfl,rfl⟩|⟨ad,cap,ys,rfl,y1,y2,y3,y4⟩
    ·have hrun:=run_append_Vnone (P:=X.P) t o.type e ie sz tk.und tke.info u rows.length xs hown c0
     obtain⟨c',q1,q2⟩:=hc.set_row (w':=w) (rows':=rows++[]) (v':=u) (xs':=xs) hk' hov ⟨rfl,rfl,rfl,Nat.le_refl _,fun _ _ _=>rfl⟩ (by rw[List.append_nil];exact hown) (.inl rfl) (by rw[List.append_nil];exact hr)
      (by rw[List.append_nil];exact hszr) (by rw[List.append_nil];exact h1)
     exact⟨_,_,_,hexec _ _ hu hv _ _ hrun,.inl rfl,c',q1,q2⟩
    ·obtain⟨v',w',hrun,hown',hgr,hwh⟩:=run_append_V (P:=X.P) (w:=w) t o.type e ie ze sz te.bytes tk.und tke.info tke.zero (tke.size.trans hsz) tke.bytes hzs hs0 u rows.length xs hown ad news.length cap ys y1 y2 y3 (by unfold maxLen;exact hlen) hby
     obtain⟨c',q1,q2⟩:=hc.set_row (w':=w') (rows':=rows++news) (v':=v') (xs':=xs++ys) hk' hov hgr (by rw[List.length_append];exact hown') hwh (by rw[List.flatten_append];exact repPs_app hr y4)
      (fun r hr'=>(List.mem_append.1 hr').elim (hszr r) (n1 r)) (fun r hr'=>(List.mem_append.1 hr').elim (h1 r) (n2 r))
     exact⟨_,_,_,hexec _ _ hu hv _ _ hrun,.inl rfl,c',q1,q2⟩
theorem op_appendNil {t e nk sz:Nat}{x y:Operand}{ti te:TI}{news:List (List PV)}{tyy:List Nat}(ho:o.op= .call {callee:= .builtin .append,args:=#[x,y],argTypes:=#[t,t]})(ht:tcheck X.P t=some ti)(he':ti.elem=some e)(hte:tcheck X.P e=some te)
 (hsz:te.size=sz) (hs0:0 < sz) (hx:ev s x= .d (.v (.slice none 0 0))) (hk:s.heap nk= .none) (hkm:¬nk < X.m) (hy:SrcP s sz (ev s y) news tyy)
 (hlen:news.length≤9223372036854775807) (hby:news.length*te.bytes≤140737488355328):
 OpOK X ops s o {pv:= .own nk 0,eff:=[(nk,.row e sz 0 news)],touch:=nk::tyy}:=
 opok_gen hd (fun kc h=>by simp at h;subst h;simp) fun s' he hkk a w c hc=>by
  have e2:=ev_ok hc y
  rw[he y (by simp[ho,Op.operands,Call.operands])]at e2
  have hk':s'.heap nk= .none:=by rw[hkk nk (by simp)];exact hk
  have hu:=ev_v' hc ((he x (by simp[ho,Op.operands,Call.operands])).trans hx)
  obtain⟨i,d,z,tk⟩:=tck ht
  obtain⟨ie,de,ze,tke⟩:=tck hte
  have hde:d= .slice e:=by
   have:=tk.elem
   rw[he']at this
   cases d<;>simp[elemD]at this
   rw[this]
  subst hde
  have hzs:ze.cells.size=sz:=by rw[←hsz,←tke.zsize,←tke.zcells];simp
  generalize hv:a.eval y=v at e2
  have hexec:∀v' w',(Builtin.append_ #[t,t] o.type #[.slice none 0 0,v]).run X.P w= .ok v' w'→(execOp a.eval o).run X.P w= .ok (.value v') w':=by
   intro v' w' hr
   simp[execOp,ho,resolve,hu,hv,invoke,builtin,hr]
  obtain⟨n1,n2,hsrc⟩:=src_ok hy hs0 (fun k hk=>hkk k (List.mem_cons_of_mem _ hk)) hc e2
  rcases hsrc with⟨c0,rfl,rfl⟩|⟨ad,cap,ys,rfl,y1,y2,y3,y4⟩
  ·have hrun:=run_append_Vnone (P:=X.P) (w:=w) t o.type e ie sz tk.und tke.info (.slice none 0 0) 0 [] .nil c0
   obtain⟨c',q1,q2⟩:=hc.new_row (w':=w) hk' hkm e sz [] (.slice none 0 0) [] (Below.refl _ _) .nil (fun b h=>by cases h) ⟨rfl,fun j d x h=>by simp at h⟩ (by simp) (by simp)
   exact⟨_,_,_,hexec _ _ hrun,.inl rfl,c',q1,q2⟩
  ·obtain⟨v',w',hrun,hown',hgr,hwh⟩:=run_append_V (P:=X.P) (w:=w) t o.type e ie ze sz te.bytes tk.und tke.info tke.zero (tke.size.trans hsz) tke.bytes hzs hs0 (.slice none 0 0) 0 [] .nil ad news.length cap ys y1 y2 y3 (by unfold maxLen;omega) (by rw[Nat.zero_add];exact hby)
   have hx':Ext w w':=⟨hgr.os,hgr.tape,hgr.output,hgr.size,fun b hb=>hgr.block b hb (fun h=>by cases h)⟩
   obtain⟨c',q1,q2⟩:=hc.new_row (w':=w') hk' hkm e sz news v' ys hx' (by rw[Nat.zero_add,List.nil_append]at hown';exact hown') (fun b hb=>by
    rcases hwh with h0|h0
    ·rw[h0]at hb;cases hb
    ·exact h0 b hb) y4 n1 n2
   exact⟨_,_,_,hexec _ _ hrun,.inl rfl,c',q1,q2⟩
omit hd in
theorem setAt_left {α:Type}{l m xs:List α}{off:Nat}(h:off+xs.length≤l.length):setAt (l++m) off xs=setAt l off xs++m:=by
 unfold setAt
 rw[List.take_append_of_le_length (by omega),List.drop_append_of_le_length (by omega)]
 simp
omit hd in
theorem setAt_right {α:Type}{l m xs:List α}{off:Nat}:setAt (l++m) (l.length+off) xs=l++setAt m off xs:=by
 unfold setAt
 rw[List.take_append,List.drop_append]
 rw[List.take_of_length_le (by omega),List.drop_of_length_le (by omega)]
 simp only[List.nil_append,List.append_assoc]
 rw[show l.length+off - l.length=off by omega,show l.length+off+xs.length - l.length=off+xs.length by omega]
omit hd in
theorem flatten_set {α:Type}{sz:Nat}:∀{rows:List (List α)},(∀r∈rows,r.length=sz)→∀{i j:Nat}{row ps:List α},rows[i]? =some row→j+ps.length≤sz→(rows.set i (setAt row j ps)).flatten=setAt rows.flatten (i*sz+j) ps
 |[],_,i,j,row,ps,h,_=>by simp at h
 |r::rows,hl,0,j,row,ps,h,hj=>by
  simp at h
  subst h
  rw[List.set_cons_zero,List.flatten_cons,List.flatten_cons,Nat.zero_mul,Nat.zero_add,setAt_left (by rw[hl r (by simp)];exact hj)]
 |r::rows,hl,i+1,j,row,ps,h,hj=>by
  rw[List.set_cons_succ,List.flatten_cons,List.flatten_cons,flatten_set (fun r hr=>hl r (by simp[hr])) (by simpa using h) hj]
  have hr:=hl r (by simp)
  rw[show (i+1)*sz+j=r.length+(i*sz+j) by rw[Nat.succ_mul];omega,setAt_right]
omit hd in
theorem setAt_take {α:Type}{l xs:List α}{off n:Nat}(h:off+xs.length≤n)(hn:n≤l.length):(setAt l off xs).take n=setAt (l.take n) off xs:=by
 apply List.ext_getElem?
 intro j
 rw[setAt_get (by rw[List.length_take];omega)]
 by_cases hj:j < n
 ·rw[List.getElem?_take_of_lt hj,setAt_get (by omega),List.getElem?_take_of_lt hj]
 ·rw[List.getElem?_eq_none (by rw[List.length_take];omega),if_neg (by omega),List.getElem?_eq_none (by rw[List.length_take];omega)]
theorem op_storeRp {t k g sz i j E:Nat}{x y:Operand}{ti:TI}{rows:List (List PV)}{row:List PV}(ho:o.op= .store t x y)(hdst:o.dst=none)(ht:tcheck X.P t=some ti)(hx:ev s x= .rp k g sz i j)(hk:s.heap k= .row E sz g rows)(hrow:rows[i]? =some row)(hy:okP (ev s y)=true)
 (hl:(cellsP (ev s y)).length=ti.size) (hsz:j+ti.size≤sz):OpOK X ops s o {pv:= .any,eff:=[(k,.row E sz g (rows.set i (setAt row j (cellsP (ev s y)))))],touch:=[k]}:=
 opok_gen hd (fun kc h=>by simp at h;subst h;simp) fun s' he hkk a w c hc=>by
  have e1:=ev_ok hc x
  rw[he x (by simp[ho,Op.operands]),hx]at e1
  have e2:=ev_ok hc y
  rw[he y (by simp[ho,Op.operands])]at e2
  obtain⟨r1,r2⟩:=cells_rep e2 hy
  have hone:=RepPs.one r1 r2
  have hk':s'.heap k= .row E sz g rows:=by rw[hkk k (by simp)];exact hk
  have hck:=hc.chunk k
  rw[hk']at hck
  generalize hu:a.eval x=u at e1
  cases e1 with
  |rp _ _ _ _ _ b n cap hb=>
   have hne:rows≠[]:=fun e=>by rw[e]at hrow;cases hrow
   obtain⟨cur,xs,q1,q2,q3,q4,q5,q6,q7,q8,q9,q10,q11⟩:=row_cells hck hb hne
   have hi:i < rows.length:=(List.getElem?_eq_some_iff.1 hrow).1
   have hlim:(i+1)*sz≤rows.length*sz:=Nat.mul_le_mul_right sz hi
   rw[Nat.succ_mul]at hlim
   obtain⟨ii,d,z,tk⟩:=tck ht
   have hyl:(a.eval y).cells.size=ti.size:=by have:=r1.1;simp at this;omega
   have hst:=run_storeCells_at X.P b (i*sz+j) E (a.eval y).cells.toList 0 cur w q1 (by simp;omega) hone
   have hst2:(storeCells ⟨b,i*sz+j,none⟩ (a.eval y).cells.toList).run X.P w= .ok () (w.setRow b (setAt cur.toList (i*sz+j) (a.eval y).cells.toList).toArray):=by
    rw[hst]
    simp[setAt]
   have hrun:(Instr.storeAt t (a.eval x) (a.eval y)).run X.P w= .ok () (w.setRow b (setAt cur.toList (i*sz+j) (a.eval y).cells.toList).toArray):=by
    rw[hu]
    simp[Instr.storeAt,Instr.sureAddr,storeVar,sizeOf,typeInfo,tk.info,tk.size,hyl,hst2]
   have hcap0:0 < cap:=by omega
   have hlen2:(setAt cur.toList (i*sz+j) (a.eval y).cells.toList).length=cur.size:=by rw[setAt_length (by simp;omega)];simp
   have hxs:xs=cur.toList.take (rows.length*sz):=by
    apply List.ext_getElem?
    intro j'
    by_cases hj':j' < rows.length*sz
    ·rw[List.getElem?_take_of_lt hj']
     exact(q4 j' hj').symm.trans (by simp)
    ·rw[List.getElem?_eq_none (by omega),List.getElem?_eq_none (by rw[List.length_take];omega)]
   have hsl:(setAt xs (i*sz+j) (a.eval y).cells.toList).length=rows.length*sz:=by rw[setAt_length (by simp;omega)];exact q3
   have hset:=hc.put_row (w':=w.setRow b (setAt cur.toList (i*sz+j) (a.eval y).cells.toList).toArray) (rows':=rows.set i (setAt row j (cellsP (ev s y)))) (xs':=setAt xs (i*sz+j) (a.eval y).cells.toList) hk' hb
    ⟨rfl,rfl,rfl,by simp[World.setRow],fun b' _ hne'=>by
     rw[ownB_pos hcap0]at hne'
     simp only[World.setRow,Array.getElem?_modify]
     rw[if_neg (fun e=>hne' (by rw[e]))]⟩
    (by
     rw[List.length_set,q7]
     exact .row b rows.length cap _ _ hcap0 (setRow_heap w b _ _ E _ q1) (by omega) q9 (by simp[hlen2,q11]) hsl (by
      rw[List.toList_toArray,setAt_take (by simp;omega) (by simp;omega),←hxs]))
    (by rw[flatten_set q5 hrow (by omega)];exact repPs_set q2 r1 (by rw[q2.1];omega))
    (fun r hr=>by
     rcases List.mem_or_eq_of_mem_set hr with h|rfl
     ·exact q5 r h
     ·rw[setAt_length (by rw[q5 row (List.mem_of_getElem? hrow)];omega)];exact q5 row (List.mem_of_getElem? hrow))
    (fun r hr d hd=>by
     rcases List.mem_or_eq_of_mem_set hr with h|rfl
     ·exact q6 r h d hd
     ·exact(mem_setAt hd).elim (q6 row (List.mem_of_getElem? hrow) d) (r2 d))
   refine⟨.skip,undef,_,?_,.inr ⟨rfl,rfl⟩,c,hset,.any _⟩
   simp only[execOp,ho]
   rw[Sem.run_bind,hrun]
   rfl
end
section
variable {X:Cfg}{ops:Array Oper}{s:FS}{o:Oper}(hd:∀d,o.dst=some d→d < X.n)
theorem flatten_setAt {α:Type}{sz:Nat}{rows news:List (List α)}(h:∀r∈rows,r.length=sz)(hn:∀r∈news,r.length=sz)(i:Nat):(setAt rows i news).flatten=setAt rows.flatten (i*sz) news.flatten:=by
 unfold setAt
 rw[List.flatten_append,List.flatten_append,flatten_take h,flatten_drop h,flatten_len hn,Nat.add_mul]
theorem zeroCells_rep (z:Array Value)(n:Nat):(Builtin.zeroCells z n).toList=(List.replicate n z.toList).flatten:=by
 have hl:(Builtin.zeroCells z n).toList.length=n*z.size:=by simp[Builtin.zeroCells]
 have hr:∀r∈List.replicate n z.toList,r.length=z.size:=fun r hr=>by rw[List.eq_of_mem_replicate hr];simp
 have hl2:(List.replicate n z.toList).flatten.length=n*z.size:=by rw[flatten_len hr];simp
 apply List.ext_getElem?
 intro i
 by_cases hi:i < n*z.size
 ·have h0:0 < z.size:=by
   rcases Nat.eq_zero_or_pos z.size with h|h
   ·rw[h]at hi;omega
   ·exact h
  have e1:i / z.size < n:=Nat.div_lt_of_lt_mul (by rw[Nat.mul_comm];exact hi)
  have e2:i % z.size < z.size:=Nat.mod_lt _ h0
  have e3:i / z.size*z.size+i % z.size=i:=by rw[Nat.mul_comm];exact Nat.div_add_mod i z.size
  have e4:=flatten_atG hr (i / z.size) (i % z.size) e2
  rw[e3,List.getElem?_replicate,if_pos e1]at e4
  rw[e4]
  simp[Builtin.zeroCells,hi,e2]
 ·rw[List.getElem?_eq_none (by omega),List.getElem?_eq_none (by omega)]
theorem RealC.write_rows {a:Act}{w:World}{c:Cx}(hc:RealC X s a w c){k E sz g:Nat}{rows:List (List PV)}(hk:s.heap k= .row E sz g rows){b n cap:Nat}(hb:c.ov k g=some (.slice (some ⟨b,0,none⟩) n cap))(hne:rows≠[])
 (i:Nat) (news:List (List PV)) (ys:List Value) (hr:RepPs c w news.flatten ys) (hi:i+news.length≤rows.length) (hszn:∀r∈news,r.length=sz) (h1n:∀r∈news,∀d∈r,d.one=true):
 ∃w',(storeCells ⟨b,i*sz,none⟩ ys).run X.P w= .ok () w'∧RealC X {s with heap:=effH [(k,.row E sz g (setAt rows i news))] s.heap} a w' c:=by
 have hck:=hc.chunk k
 rw[hk]at hck
 obtain⟨cur,xs,q1,q2,q3,q4,q5,q6,q7,q8,q9,q10,q11⟩:=row_cells hck hb hne
 have hone:=RepPs.one hr (fun d hd=>by obtain⟨r,hr,hd⟩:=List.mem_flatten.1 hd;exact h1n r hr d hd)
 have hyl:ys.length=news.length*sz:=by rw[←hr.1,flatten_len hszn]
 have hlim:(i+news.length)*sz≤rows.length*sz:=Nat.mul_le_mul_right sz hi
 rw[Nat.add_mul]at hlim
 have hst:=run_storeCells_at X.P b (i*sz) E ys 0 cur w q1 (by simp;omega) hone
 have hst2:(storeCells ⟨b,i*sz,none⟩ ys).run X.P w= .ok () (w.setRow b (setAt cur.toList (i*sz) ys).toArray):=by
  rw[hst]
  simp[setAt]
 have hcap0:0 < cap:=by
  have:0 < rows.length:=List.length_pos_iff.2 hne
  omega
 have hlen2:(setAt cur.toList (i*sz) ys).length=cur.size:=by rw[setAt_length (by simp;omega)];simp
 have hxs:xs=cur.toList.take (rows.length*sz):=by
  apply List.ext_getElem?
  intro j'
  by_cases hj':j' < rows.length*sz
  ·rw[List.getElem?_take_of_lt hj']
   exact(q4 j' hj').symm.trans (by simp)
  ·rw[List.getElem?_eq_none (by omega),List.getElem?_eq_none (by rw[List.length_take];omega)]
 have hsl:(setAt xs (i*sz) ys).length=rows.length*sz:=by rw[setAt_length (by omega)];exact q3
 refine⟨_,hst2,hc.put_row (rows':=setAt rows i news) (xs':=setAt xs (i*sz) ys) hk hb ⟨rfl,rfl,rfl,by simp[World.setRow],fun b' _ hne'=>by
  rw[ownB_pos hcap0]at hne'
  simp only[World.setRow,Array.getElem?_modify]
  rw[if_neg (fun e=>hne' (by rw[e]))]⟩ ?_ ?_ ?_ ?_⟩
 ·rw[setAt_length hi,q7]
  exact .row b rows.length cap _ _ hcap0 (setRow_heap w b _ _ E _ q1) (by omega) q9 (by simp[hlen2,q11]) hsl (by
   rw[List.toList_toArray,setAt_take (by omega) (by simp;omega),←hxs])
 ·rw[flatten_setAt q5 hszn];exact repPs_set q2 hr (by rw[q2.1,flatten_len hszn];omega)
 ·exact fun r hr=>(mem_setAt hr).elim (q5 r) (hszn r)
 ·exact fun r hr=>(mem_setAt hr).elim (q6 r) (h1n r)
include hd
theorem op_appendOsl {t e k sz g n:Nat}{x y:Operand}{ti te:TI}{rows news:List (List PV)}{tyy:List Nat}(ho:o.op= .call {callee:= .builtin .append,args:=#[x,y],argTypes:=#[t,t]})(ht:tcheck X.P t=some ti)(he':ti.elem=some e)(hte:tcheck X.P e=some te)
 (hsz:te.size=sz) (hs0:0 < sz) (hx:ev s x= .osl k g sz 0 n) (hk:s.heap k= .row e sz g rows) (hne:rows≠[]) (hy:SrcP s sz (ev s y) news tyy) (hin:n+news.length≤rows.length):
 OpOK X ops s o {pv:= .osl k g sz 0 (n+news.length),eff:=[(k,.row e sz g (setAt rows n news))],touch:=k::tyy}:=
 opok_gen hd (fun kc h=>by simp at h;subst h;simp) fun s' he hkk a w c hc=>by
  have e1:=ev_ok hc x
  rw[he x (by simp[ho,Op.operands,Call.operands]),hx]at e1
  have e2:=ev_ok hc y
  rw[he y (by simp[ho,Op.operands,Call.operands])]at e2
  have hk':s'.heap k= .row e sz g rows:=by rw[hkk k (by simp)];exact hk
  obtain⟨i,d,z,tk⟩:=tck ht
  obtain⟨ie,de,ze,tke⟩:=tck hte
  have hde:d= .slice e:=by
   have:=tk.elem
   rw[he']at this
   cases d<;>simp[elemD]at this
   rw[this]
  subst hde
  generalize hu:a.eval x=u at e1
  generalize hv:a.eval y=v at e2
  obtain⟨n1,n2,hsrc⟩:=src_ok hy hs0 (fun k hk=>hkk k (List.mem_cons_of_mem _ hk)) hc e2
  cases e1 with
  |osl _ _ _ _ _ b oo N cap hov hn hcN hoo=>
   have hrl:0 < rows.length:=List.length_pos_iff.2 hne
   have hck:=hc.chunk k
   rw[hk']at hck
   obtain⟨cur,xs,q1,q2,q3,q4,q5,q6,q7,q8,q9,q10,q11⟩:=row_cells hck hov hne
   obtain rfl:oo=0:=by rw[hoo (by omega)];simp
   rcases hsrc with⟨c0,rfl,rfl⟩|⟨ad,cap',ys,rfl,hyl,hcell,hone,hrr⟩
   ·obtain⟨w',hst,hreal⟩:=hc.write_rows hk' hov hne n [] [] ⟨rfl,fun j d x h=>by simp at h⟩ (by simpa using hin) (fun r h=>by simp at h) (fun r h=>by simp at h)
    have hw:w'=w:=by simpa[storeCells]using hst.symm
    subst hw
    refine⟨_,.slice (some ⟨b,0,none⟩) n (cap - 0),w',?_,.inl rfl,c,hreal,?_⟩
    ·simp[execOp,ho,resolve,hu,hv,invoke,builtin,Builtin.append_,run_underlying tk.und,sizeOf,typeInfo,tke.info,Builtin.lenOf,Builtin.firstCells,storeCells,(by omega:n≤cap)]
    ·exact .osl k g sz 0 n b 0 N cap hov (by omega) hcN (fun _=>by simp)
   ·obtain⟨w',hst,hreal⟩:=hc.write_rows hk' hov hne n news ys hrr hin n1 n2
    have hfc:=run_firstCells_some (P:=X.P) w sz news.length ad news.length cap' ys hyl hcell
    refine⟨_,.slice (some ⟨b,0,none⟩) (n+news.length) (cap - 0),w',?_,.inl rfl,c,hreal,?_⟩
    ·have hroom:n+news.length≤cap:=by omega
     have hty:∀ty,(Builtin.append_ #[t,t] ty #[.slice (some ⟨b,0,none⟩) n (cap - 0),.slice (some ad) news.length cap']).run X.P w= .ok (.slice (some ⟨b,0,none⟩) (n+news.length) (cap - 0)) w':=by
      intro ty
      simp[Builtin.append_,run_underlying tk.und,sizeOf,typeInfo,tke.info,tke.size,hsz,Builtin.lenOf,hroom,hfc,Addr.add_lit,hst]
     simp only[Nat.sub_zero]at hty
     simp[execOp,ho,resolve,hu,hv,invoke,builtin,hty]
    ·exact .osl k g sz 0 _ b 0 N cap hov (by omega) hcN (fun _=>by simp)
theorem op_clearOsl {t e k sz g st n:Nat}{x:Operand}{ti te:TI}{rows:List (List PV)}(ho:o.op= .call {callee:= .builtin .clear,args:=#[x],argTypes:=#[t]})(ht:tcheck X.P t=some ti)(he':ti.elem=some e)(hte:tcheck X.P e=some te)
 (hsz:te.size=sz) (hx:ev s x= .osl k g sz st n) (hk:s.heap k= .row e sz g rows) (hne:rows≠[]) (hin:st+n≤rows.length):
 OpOK X ops s o {pv:= .d (.v (.tuple #[])),eff:=[(k,.row e sz g (setAt rows st (List.replicate n (te.zero.map fun x=> .d (.v x)))))],touch:=[k]}:=
 opok_gen hd (fun kc h=>by simp at h;subst h;simp) fun s' he hkk a w c hc=>by
  have e1:=ev_ok hc x
  rw[he x (by simp[ho,Op.operands,Call.operands]),hx]at e1
  have hk':s'.heap k= .row e sz g rows:=by rw[hkk k (by simp)];exact hk
  obtain⟨i,d,z,tk⟩:=tck ht
  obtain⟨ie,de,ze,tke⟩:=tck hte
  have hde:d= .slice e:=by
   have:=tk.elem
   rw[he']at this
   cases d<;>simp[elemD]at this
   rw[this]
  subst hde
  generalize hu:a.eval x=u at e1
  have hzl:te.zero.length=sz:=by rw[tke.zsize,hsz]
  have hz1:∀x∈te.zero,x.oneCell'=true:=tke.one
  cases e1 with
  |osl _ _ _ _ _ b oo N cap hov hn hcN hoo=>
   cases n with
   |zero=>
    have hset:setAt rows st (List.replicate 0 (te.zero.map fun x=>PV.d (.v x)))=rows:=by simp[setAt]
    refine⟨_,.tuple #[],w,?_,.inl rfl,c,?_,.d _ _ (.v _)⟩
    ·simp[execOp,ho,resolve,hu,invoke,builtin,Builtin.clear_,run_underlying tk.und]
    ·rw[hset]
     have:({env:=s'.env,heap:=effH [(k,.row e sz g rows)] s'.heap}:FS)=s':=by
      cases s' with
      |mk env heap=>
       simp only[FS.mk.injEq,true_and]
       funext k'
       rw[effH1]
       show (if k'=k then _ else heap k')=heap k'
       split
       ·rename_i e;subst e;exact hk'.symm
       ·rfl
     rw[this];exact hc
   |succ n=>
    have hrl:0 < rows.length:=List.length_pos_iff.2 hne
    obtain rfl:oo=st*sz:=hoo (by omega)
    obtain⟨w',hst,hreal⟩:=hc.write_rows hk' hov hne st (List.replicate (n+1) (te.zero.map fun x=> .d (.v x))) (List.replicate (n+1) te.zero).flatten
     ⟨by simp[List.map_replicate],fun j d x hj hx=>by
      have e2:(List.replicate (n+1) (te.zero.map fun x=>PV.d (.v x))).flatten=(List.replicate (n+1) te.zero).flatten.map fun x=>PV.d (.v x):=by rw[List.map_flatten,List.map_replicate]
      rw[e2,List.getElem?_map,hx]at hj
      cases hj
      exact .d _ _ (.v _)⟩
     (by simpa using hin) (fun r hr=>by rw[List.eq_of_mem_replicate hr];simpa using hzl)
     (fun r hr d hd=>by
      rw[List.eq_of_mem_replicate hr]at hd
      obtain⟨x,hx,rfl⟩:=List.mem_map.1 hd
      exact hz1 x hx)
    refine⟨_,.tuple #[],w',?_,.inl rfl,c,hreal,.d _ _ (.v _)⟩
    have hzc:(Builtin.zeroCells ze.cells (n+1)).toList=(List.replicate (n+1) te.zero).flatten:=by
     rw[←tke.zcells]
     exact zeroCells_rep ze.cells (n+1)
    simp[execOp,ho,resolve,hu,invoke,builtin,Builtin.clear_,run_underlying tk.und,zeroValue,typeInfo,tke.info,tke.zero,hzc,hst]
def loB:Option PV→Option Nat
 |none=>some 0
 |some (.d (.v (.int _ n)))=>if 0≤n then some n.toNat else none
 |_=>none
def hiB (len:Nat):Option PV→Option Nat
 |none=>some len
 |some (.d (.v (.int _ n)))=>if 0≤n then some n.toNat else none
 |_=>none
omit hd in
theorem run_part {P:Program}{t e sz:Nat}{ie:TypeInfo}(ht:P.underlying t=some (.slice e))(hi:P.info? e=some ie)(hsz:ie.size=sz)(w:World)(a:Option Addr)(len cap:Nat)(lo hi:Option Value)(l h:Nat)
 (hlo:(lo=none∧l=0)∨∃k,lo=some (.int k l)) (hhi:(hi=none∧h=len)∨∃k,hi=some (.int k h)) (h1:l≤h) (h2:h≤cap):
 (Instr.sliceAt t (.slice a len cap) lo hi none).run P w= .ok (.slice (if cap=l then a else a.map (·.add (l*sz))) (h - l) (cap - l)) w:=by
 have e1:(0:Int)≤(l:Int):=by omega
 have e2:(0:Int)≤(h:Int):=by omega
 have e3:(l:Int)≤(h:Int):=by omega
 have e4:(h:Int)≤(cap:Int):=by omega
 rcases hlo with⟨rfl,rfl⟩|⟨k,rfl⟩<;>rcases hhi with⟨rfl,rfl⟩|⟨k',rfl⟩<;>
  simp[Instr.sliceAt,Instr.slice,run_underlying ht,Instr.sliceBounds,Instr.sliceBound,asIntOf,sizeOf,typeInfo,hi,hsz,e1,e2,e3,e4,h1,h2,Nat.not_lt.2 h1,Nat.not_lt.2 h2,Nat.not_lt.2 (Nat.le_trans h1 h2),Nat.le_trans h1 h2]
omit hd in
theorem run_part3 {P:Program}{t e sz:Nat}{ie:TypeInfo}(ht:P.underlying t=some (.slice e))(hi:P.info? e=some ie)(hsz:ie.size=sz)(w:World)(a:Option Addr)(len cap:Nat)(k1 k2 k3:IntKind)(l h m:Nat)
 (h1:l≤h) (h2:h≤m) (h3:m≤cap):∃v,(Instr.sliceAt t (.slice a len cap) (some (.int k1 l)) (some (.int k2 h)) (some (.int k3 m))).run P w= .ok v w:=by
 have e1:(0:Int)≤(l:Int):=by omega
 have e2:(0:Int)≤(h:Int):=by omega
 have e3:(l:Int)≤(h:Int):=by omega
 have e4:(h:Int)≤(m:Int):=by omega
 have e5:(0:Int)≤(m:Int):=by omega
 have e6:(m:Int)≤(cap:Int):=by omega
 simp[Instr.sliceAt,Instr.slice,run_underlying ht,Instr.sliceBounds,Instr.sliceBound,asIntOf,sizeOf,typeInfo,hi,hsz,e1,e2,e3,e4,e5,e6,h1,h2,h3]
omit hd in
theorem bound_lo {s':FS}{a:Act}{w:World}{c:Cx}(hc:RealC X s' a w c){lo:Option Operand}{l:Nat}(h:loB (lo.map (ev s'))=some l):((lo.map a.eval)=none∧l=0)∨∃k,lo.map a.eval=some (.int k l):=by
 cases lo with
 |none=>exact .inl ⟨rfl,by simpa[loB]using h.symm⟩
 |some x=>
  right
  simp only[Option.map_some]at h ⊢
  unfold loB at h
  split at h
  ·rename_i e;cases e
  ·rename_i k n e
   have:=ev_v' hc (Option.some.inj e)
   split at h
   ·rename_i h0
    have h:=Option.some.inj h
    exact⟨k,by rw[this,←h,Int.toNat_of_nonneg h0]⟩
   ·cases h
  ·cases h
omit hd in
theorem bound_hi {s':FS}{a:Act}{w:World}{c:Cx}(hc:RealC X s' a w c){lo:Option Operand}{len l:Nat}(h:hiB len (lo.map (ev s'))=some l):((lo.map a.eval)=none∧l=len)∨∃k,lo.map a.eval=some (.int k l):=by
 cases lo with
 |none=>exact .inl ⟨rfl,by simpa[hiB]using h.symm⟩
 |some x=>
  right
  simp only[Option.map_some]at h ⊢
  unfold hiB at h
  split at h
  ·rename_i e;cases e
  ·rename_i k n e
   have:=ev_v' hc (Option.some.inj e)
   split at h
   ·rename_i h0
    have h:=Option.some.inj h
    exact⟨k,by rw[this,←h,Int.toNat_of_nonneg h0]⟩
   ·cases h
  ·cases h
omit hd in
theorem map_ev {s':FS}{lo:Option Operand}(h:∀x,lo=some x→ev s' x=ev s x):lo.map (ev s')=lo.map (ev s):=by
 cases lo with
 |none=>rfl
 |some x=>simp[h x rfl]
theorem op_sliceD {t e sz:Nat}{x:Operand}{lo hi:Option Operand}{ti te:TI}{rows:List (List D)}{l h:Nat}(ho:o.op= .slice t x lo hi none)(ht:tcheck X.P t=some ti)(he':ti.elem=some e)(hte:tcheck X.P e=some te)(hsz:te.size=sz)
 (hx:ev s x= .d (.sl sz rows)) (hlo:loB (lo.map (ev s))=some l) (hhi:hiB rows.length (hi.map (ev s))=some h) (h1:l≤h) (h2:h≤rows.length):OpOK X ops s o {pv:= .d (.sl sz ((rows.take h).drop l))}:=
 opok_read hd fun s' he _ a w c hc=>by
  have e1:=ev_ok hc x
  rw[he x (by simp[ho,Op.operands]),hx]at e1
  rw[←map_ev (s:=s) (s':=s') (fun y hy=>he y (by simp[ho,Op.operands,hy]))]at hlo hhi
  have b1:=bound_lo hc hlo
  have b2:=bound_hi hc hhi
  generalize hu:a.eval x=u at e1
  have e1:=repD_inv e1
  obtain⟨i,d,z,tk⟩:=tck ht
  obtain⟨ie,de,ze,tke⟩:=tck hte
  have hde:d= .slice e:=by
   have:=tk.elem
   rw[he']at this
   cases d<;>simp[elemD]at this
   rw[this]
  subst hde
  cases e1 with
  |nil _ ao cap hm=>
   have hr:=run_part tk.und tke.info (tke.size.trans hsz) w ao 0 cap _ _ l h b1 b2 h1 (by simp at h2;omega)
   refine⟨_,by simp only[execOp,ho,hu,Option.map_none];rw[Sem.run_bind,hr];rfl,.d _ _ ?_⟩
   simp only[List.length_nil,Nat.le_zero]at h2
   subst h2
   simp only[List.take_zero,List.drop_nil]
   rw[Nat.zero_sub]
   exact .nil _ _ _ (by omega)
  |sl _ _ b off cap f hM hb hcl hm hr h1' hcell hrep=>
   have hr':=run_part tk.und tke.info (tke.size.trans hsz) w (some ⟨b,off,none⟩) rows.length cap _ _ l h b1 b2 h1 (by omega)
   refine⟨_,by simp only[execOp,ho,hu,Option.map_none];rw[Sem.run_bind,hr'];rfl,.d _ _ ?_⟩
   have hl:((rows.take h).drop l).length=h - l:=by rw[List.length_drop,List.length_take];omega
   by_cases hcl':cap=l
   ·obtain rfl:h=l:=by omega
    have:(rows.take h).drop h=[]:=List.eq_nil_of_length_eq_zero (by rw[hl];omega)
    rw[this,Nat.sub_self]
    exact .nil _ _ _ (by omega)
   ·rw[if_neg hcl',←hl]
    simp only[Option.map_some,Addr.add_lit]
    have hget:∀i row,((rows.take h).drop l)[i]? =some row→rows[l+i]? =some row:=by
     intro i row hi
     rw[List.getElem?_drop]at hi
     have:=(List.getElem?_eq_some_iff.1 hi).1
     rw[List.length_take]at this
     rwa [List.getElem?_take_of_lt (by omega)]at hi
    refine .sl sz _ b (off+l*sz) (cap - l) (fun i j=>f (l+i) j) hM hb (by omega) (by omega) (fun r hr0=>hr r (List.mem_of_mem_take (List.mem_of_mem_drop hr0))) (fun r hr0=>h1' r (List.mem_of_mem_take (List.mem_of_mem_drop hr0))) (fun i j hi hj=>?_) (fun i j row d hi hj=>hrep _ _ row d (hget i row hi) hj)
    have:=hcell (l+i) j (by omega) hj
    rw[Nat.add_mul]at this
    rw[←this]
    congr 2
    omega
theorem op_sliceOwn {t e k g sz:Nat}{x:Operand}{lo hi:Option Operand}{ti te:TI}{rows:List (List PV)}{l h:Nat}(ho:o.op= .slice t x lo hi none)(ht:tcheck X.P t=some ti)(he':ti.elem=some e)(hte:tcheck X.P e=some te)(hsz:te.size=sz)
 (hx:ev s x= .own k g) (hk:s.heap k= .row e sz g rows) (hne:rows≠[]) (hlo:loB (lo.map (ev s))=some l) (hhi:hiB rows.length (hi.map (ev s))=some h) (h1:l≤h) (h2:h≤rows.length):OpOK X ops s o {pv:= .osl k g sz l (h - l),touch:=[k]}:=
 opok_read hd fun s' he hkk a w c hc=>by
  have e1:=ev_ok hc x
  rw[he x (by simp[ho,Op.operands]),hx]at e1
  rw[←map_ev (s:=s) (s':=s') (fun y hy=>he y (by simp[ho,Op.operands,hy]))]at hlo hhi
  have b1:=bound_lo hc hlo
  have b2:=bound_hi hc hhi
  have hck:=hc.chunk k
  rw[hkk k (by simp),hk]at hck
  generalize hu:a.eval x=u at e1
  obtain⟨i,d,z,tk⟩:=tck ht
  obtain⟨ie,de,ze,tke⟩:=tck hte
  have hde:d= .slice e:=by
   have:=tk.elem
   rw[he']at this
   cases d<;>simp[elemD]at this
   rw[this]
  subst hde
  cases e1 with
  |own _ _ _ hov hv1=>
   obtain⟨b,cap,rfl⟩:=own_some hck hov hne
   obtain⟨cur,xs,q1,q2,q3,q4,q5,q6,q7,q8,q9,q10,q11⟩:=row_cells hck hov hne
   have hr':=run_part tk.und tke.info (tke.size.trans hsz) w (some ⟨b,0,none⟩) rows.length cap _ _ l h b1 b2 h1 (by omega)
   refine⟨_,by simp only[execOp,ho,hu,Option.map_none];rw[Sem.run_bind,hr'];rfl,?_⟩
   by_cases hcl:cap=l
   ·rw[if_pos hcl]
    exact .osl k g sz l (h - l) b 0 _ cap hov (by omega) q10 (by omega)
   ·rw[if_neg hcl]
    simp only[Option.map_some,Addr.add_lit,Nat.zero_add]
    exact .osl k g sz l (h - l) b _ _ cap hov (by omega) q10 (fun _=>rfl)
theorem op_sliceOwn0 {t e k g sz:Nat}{x:Operand}{lo hi:Option Operand}{ti te:TI}(ho:o.op= .slice t x lo hi none)(ht:tcheck X.P t=some ti)(he':ti.elem=some e)(hte:tcheck X.P e=some te)(hsz:te.size=sz)
 (hx:ev s x= .own k g) (hk:s.heap k= .row e sz g []) (hlo:loB (lo.map (ev s))=some 0) (hhi:hiB 0 (hi.map (ev s))=some 0):OpOK X ops s o {pv:= .any,touch:=[k]}:=
 opok_read hd fun s' he hkk a w c hc=>by
  have e1:=ev_ok hc x
  rw[he x (by simp[ho,Op.operands]),hx]at e1
  rw[←map_ev (s:=s) (s':=s') (fun y hy=>he y (by simp[ho,Op.operands,hy]))]at hlo hhi
  have b1:=bound_lo hc hlo
  have b2:=bound_hi hc hhi
  have hck:=hc.chunk k
  rw[hkk k (by simp),hk]at hck
  generalize hu:a.eval x=u at e1
  obtain⟨i,d,z,tk⟩:=tck ht
  obtain⟨ie,de,ze,tke⟩:=tck hte
  have hde:d= .slice e:=by
   have:=tk.elem
   rw[he']at this
   cases d<;>simp[elemD]at this
   rw[this]
  subst hde
  cases e1 with
  |own _ _ _ hov hv1=>
   cases hck with
   |row _ _ _ _ u' xs hu' hown hr hszr h1 hg=>
    rw[hov]at hu'
    cases hu'
    obtain⟨ao,cap,rfl⟩:∃ao cap,u= .slice ao 0 cap:=by
     simp only[List.length_nil]at hown
     generalize hz:0=z at hown
     cases hown with
     |nil=>exact⟨_,_,rfl⟩
     |zero=>exact⟨_,_,rfl⟩
     |row=>subst hz;exact⟨_,_,rfl⟩
    have hr':=run_part tk.und tke.info (tke.size.trans hsz) w ao 0 cap _ _ 0 0 b1 b2 (Nat.le_refl _) (Nat.zero_le _)
    exact⟨_,by simp only[execOp,ho,hu,Option.map_none];rw[Sem.run_bind,hr'];rfl,.any _⟩
theorem op_sliceOsl {t e k g sz st n:Nat}{x:Operand}{lo hi:Option Operand}{ti te:TI}{rows:List (List PV)}{l h:Nat}(ho:o.op= .slice t x lo hi none)(ht:tcheck X.P t=some ti)(he':ti.elem=some e)(hte:tcheck X.P e=some te)(hsz:te.size=sz)
 (hx:ev s x= .osl k g sz st n) (hk:s.heap k= .row e sz g rows) (hne:rows≠[]) (hlo:loB (lo.map (ev s))=some l) (hhi:hiB n (hi.map (ev s))=some h) (h1:l≤h) (h2:st+h≤rows.length):OpOK X ops s o {pv:= .osl k g sz (st+l) (h - l),touch:=[k]}:=
 opok_read hd fun s' he hkk a w c hc=>by
  have e1:=ev_ok hc x
  rw[he x (by simp[ho,Op.operands]),hx]at e1
  rw[←map_ev (s:=s) (s':=s') (fun y hy=>he y (by simp[ho,Op.operands,hy]))]at hlo hhi
  have b1:=bound_lo hc hlo
  have b2:=bound_hi hc hhi
  have hck:=hc.chunk k
  rw[hkk k (by simp),hk]at hck
  generalize hu:a.eval x=u at e1
  obtain⟨i,d,z,tk⟩:=tck ht
  obtain⟨ie,de,ze,tke⟩:=tck hte
  have hde:d= .slice e:=by
   have:=tk.elem
   rw[he']at this
   cases d<;>simp[elemD]at this
   rw[this]
  subst hde
  cases e1 with
  |osl _ _ _ _ _ b oo N cap hov hn hcN hoo=>
   obtain⟨cur,xs,q1,q2,q3,q4,q5,q6,q7,q8,q9,q10,q11⟩:=row_cells hck hov hne
   have hr':=run_part tk.und tke.info (tke.size.trans hsz) w (some ⟨b,oo,none⟩) n (cap - st) _ _ l h b1 b2 h1 (by omega)
   refine⟨_,by simp only[execOp,ho,hu,Option.map_none];rw[Sem.run_bind,hr'];rfl,?_⟩
   rw[Nat.sub_sub]
   by_cases hcl:cap - st=l
   ·rw[if_pos hcl]
    exact .osl k g sz (st+l) (h - l) b oo _ cap hov (by omega) q10 (by omega)
   ·rw[if_neg hcl]
    simp only[Option.map_some,Addr.add_lit]
    exact .osl k g sz (st+l) (h - l) b _ _ cap hov (by omega) q10 (fun hlt=>by rw[hoo (by omega),Nat.add_mul])
theorem op_slice3 {t e k g sz:Nat}{x y1 y2 y3:Operand}{ti te:TI}{rows:List (List PV)}{k1 k2 k3:IntKind}{n1 n2 n3:Int}(ho:o.op= .slice t x (some y1) (some y2) (some y3))(ht:tcheck X.P t=some ti)(he':ti.elem=some e)(hte:tcheck X.P e=some te)(hsz:te.size=sz)
 (hx:ev s x= .own k g) (hk:s.heap k= .row e sz g rows) (hne:rows≠[]) (hy1:ev s y1= .d (.v (.int k1 n1))) (hy2:ev s y2= .d (.v (.int k2 n2))) (hy3:ev s y3= .d (.v (.int k3 n3))) (h0:0≤n1) (h1:n1≤n2) (h2:n2≤n3) (h3:n3≤(rows.length:Int)):
 OpOK X ops s o {pv:= .any,touch:=[k]}:=
 opok_read hd fun s' he hkk a w c hc=>by
  have e1:=ev_ok hc x
  rw[he x (by simp[ho,Op.operands]),hx]at e1
  have b1:=ev_v' hc ((he y1 (by simp[ho,Op.operands])).trans hy1)
  have b2:=ev_v' hc ((he y2 (by simp[ho,Op.operands])).trans hy2)
  have b3:=ev_v' hc ((he y3 (by simp[ho,Op.operands])).trans hy3)
  have hck:=hc.chunk k
  rw[hkk k (by simp),hk]at hck
  generalize hu:a.eval x=u at e1
  obtain⟨i,d,z,tk⟩:=tck ht
  obtain⟨ie,de,ze,tke⟩:=tck hte
  have hde:d= .slice e:=by
   have:=tk.elem
   rw[he']at this
   cases d<;>simp[elemD]at this
   rw[this]
  subst hde
  cases e1 with
  |own _ _ _ hov hv1=>
   obtain⟨b,cap,rfl⟩:=own_some hck hov hne
   obtain⟨cur,xs,q1,q2,q3,q4,q5,q6,q7,q8,q9,q10,q11⟩:=row_cells hck hov hne
   obtain⟨v,hr⟩:=run_part3 tk.und tke.info (tke.size.trans hsz) w (some ⟨b,0,none⟩) rows.length cap k1 k2 k3 n1.toNat n2.toNat n3.toNat (by omega) (by omega) (by omega)
   rw[Int.toNat_of_nonneg h0,Int.toNat_of_nonneg (by omega),Int.toNat_of_nonneg (by omega)]at hr
   exact⟨v,by simp only[execOp,ho,hu,Option.map_some,b1,b2,b3];rw[Sem.run_bind,hr];rfl,.any _⟩
theorem op_lenOsl {t k g sz st n:Nat}{x:Operand}{e:Nat}{ti:TI}(ho:o.op= .call {callee:= .builtin .len,args:=#[x],argTypes:=#[t]})(ht:tcheck X.P t=some ti)(he':ti.elem=some e)(hx:ev s x= .osl k g sz st n):
 OpOK X ops s o {pv:= .d (.v (.int .i64 n))}:=
 opok_read hd fun s' he _ a w c hc=>by
  have e1:=ev_ok hc x
  rw[he x (by simp[ho,Op.operands,Call.operands]),hx]at e1
  generalize hu:a.eval x=u at e1
  obtain⟨i,dd,z,tk⟩:=tck ht
  have hde:dd= .slice e:=by
   have:=tk.elem
   rw[he']at this
   cases dd<;>simp[elemD]at this
   rw[this]
  subst hde
  cases e1 with
  |osl=>
   refine⟨.int .i64 n,?_,.d _ _ (.v _)⟩
   simp[execOp,ho,hu,resolve,invoke,builtin,Builtin.len_,run_underlying tk.und,goInt]
theorem op_indexOsl {t e k g sz st m:Nat}{x y:Operand}{ti te:TI}{kd:IntKind}{n:Int}(ho:o.op= .indexAddr t x y)(ht:tcheck X.P t=some ti)(he':ti.elem=some e)(hte:tcheck X.P e=some te)(hsz:te.size=sz)
 (hx:ev s x= .osl k g sz st m) (hy:ev s y= .d (.v (.int kd n))) (hn:0≤n) (hlt:n.toNat < m):OpOK X ops s o {pv:= .rp k g sz (st+n.toNat) 0}:=
 opok_read hd fun s' he _ a w c hc=>by
  have e1:=ev_ok hc x
  rw[he x (by simp[ho,Op.operands]),hx]at e1
  have e2:=ev_v' hc ((he y (by simp[ho,Op.operands])).trans hy)
  generalize hu:a.eval x=u at e1
  obtain⟨i,d,z,tk⟩:=tck ht
  obtain⟨ie,de,ze,tke⟩:=tck hte
  have hde:d= .slice e:=by
   have:=tk.elem
   rw[he']at this
   cases d<;>simp[elemD]at this
   rw[this]
  subst hde
  cases e1 with
  |osl _ _ _ _ _ b oo N cap hov hnn hcN hoo=>
   have hcond:0≤n∧n < (m:Int):=⟨hn,by omega⟩
   refine⟨.pointer (some ⟨b,(st+n.toNat)*sz+0,none⟩),?_,.rp k g sz _ _ b _ cap hov⟩
   rw[Nat.add_mul,←hoo (by omega)]
   simp[execOp,ho,hu,e2,Instr.indexAt,asIntOf,run_underlying tk.und,hcond,sizeOf,typeInfo,tke.info,tke.size,hsz,Addr.add_lit]
end
def lkE:List (List Int × Int)→List Int→Option Int
 |[],_=>none
 |(k,v)::l,ks=>if k=ks then some v else lkE l ks
def upE:List (List Int × Int)→List Int→Int→List (List Int × Int)
 |[],ks,v=>[(ks,v)]
 |(k,x)::l,ks,v=>if k=ks then (ks,v)::l else (k,x)::upE l ks v
theorem lkE_up:∀(l:List (List Int × Int)) (ks:List Int) (v:Int) (ks':List Int),lkE (upE l ks v) ks'=if ks=ks' then some v else lkE l ks'
 |[],ks,v,ks'=>rfl
 |(k,x)::l,ks,v,ks'=>by
  unfold upE
  by_cases h:k=ks
  ·subst h
   rw[if_pos rfl]
   by_cases h':k=ks'
   ·simp[lkE,h']
   ·simp[lkE,h']
  ·rw[if_neg h]
   unfold lkE
   rw[lkE_up l ks v ks']
   by_cases h':k=ks'
   ·subst h';simp[Ne.symm h]
   ·simp[h']
theorem upE_mem {n:Nat}:∀{l:List (List Int × Int)}{ks:List Int}{v:Int},(∀kv∈l,kv.1.length=n)→ks.length=n→∀kv∈upE l ks v,kv.1.length=n
 |[],ks,v,_,hk=>fun kv h=>by simp[upE]at h;rw[h];exact hk
 |(k,x)::l,ks,v,hl,hk=>fun kv h=>by
  unfold upE at h
  split at h
  ·rcases List.mem_cons.1 h with rfl|h
   ·exact hk
   ·exact hl kv (by simp[h])
  ·rcases List.mem_cons.1 h with rfl|h
   ·exact hl _ (by simp)
   ·exact upE_mem (fun kv h=>hl kv (by simp[h])) hk kv h
def fndE:List (List Int × Int)→List Int→Nat→Option (Nat × Value)
 |[],_,_=>none
 |(k,v)::l,ks,i=>if k=ks then some (i,.int .i64 v)else fndE l ks (i+1)
theorem fndE_lk:∀(l:List (List Int × Int)) (ks:List Int) (i:Nat),(fndE l ks i).map (·.2)=(lkE l ks).map (.int .i64)
 |[],_,_=>rfl
 |(k,v)::l,ks,i=>by
  unfold fndE lkE
  split
  ·rfl
  ·exact fndE_lk l ks (i+1)
theorem fndE_some (s:Bool):∀(l:List (List Int × Int)) (ks:List Int) (v:Int) (i j:Nat) (u:Value),fndE l ks i=some (j,u)→i≤j∧(∃e,(mapEnts s l i)[j - i]? =some e∧e.key=keyV s ks)∧(mapEnts s l i).modify (j - i) (fun e=>{e with key:=keyV s ks,val:= .int .i64 v})=mapEnts s (upE l ks v) i∧(upE l ks v).length=l.length
 |[],_,_,_,_,_,h=>by cases h
 |(k,x)::l,ks,v,i,j,u,h=>by
  unfold fndE at h
  by_cases hk:k=ks
  ·rw[if_pos hk]at h
   cases h
   subst hk
   refine⟨Nat.le_refl _,⟨_,by rw[Nat.sub_self];rfl,rfl⟩,?_,?_⟩
   ·rw[Nat.sub_self];simp[mapEnts,upE]
   ·simp[upE]
  ·rw[if_neg hk]at h
   obtain⟨h1,⟨e,h2,h3⟩,h4,h5⟩:=fndE_some s l ks v (i+1) j u h
   have hj:j - i=(j - (i+1))+1:=by omega
   refine⟨by omega,⟨e,by rw[hj];simpa[mapEnts]using h2,h3⟩,?_,?_⟩
   ·rw[hj]
    unfold upE
    rw[if_neg hk]
    simp only[mapEnts,List.modify_succ_cons]
    rw[h4]
   ·unfold upE
    rw[if_neg hk]
    simp[h5]
theorem fndE_none (s:Bool):∀(l:List (List Int × Int)) (ks:List Int) (v:Int) (i:Nat),fndE l ks i=none→mapEnts s (upE l ks v) i=mapEnts s l i++[{key:=keyV s ks,val:= .int .i64 v,born:=i+l.length}]∧(upE l ks v).length=l.length+1
 |[],_,_,_,_=>⟨rfl,rfl⟩
 |(k,x)::l,ks,v,i,h=>by
  unfold fndE at h
  by_cases hk:k=ks
  ·rw[if_pos hk]at h;cases h
  ·rw[if_neg hk]at h
   obtain⟨h1,h2⟩:=fndE_none s l ks v (i+1) h
   unfold upE
   rw[if_neg hk]
   simp only[mapEnts,h1,List.cons_append,List.length_cons,h2,and_true]
   rw[show i+1+l.length=i+(l.length+1) by omega]
structure KeyOK (P:Program)(k n:Nat)(s:Bool):Prop where
 chk:∀(em:Bool) (w:World) (xs:List Int),xs.length=n→(Instr.checkKey em 10000 k (keyV s xs)).run P w= .ok () w
 fnd:∀(w:World) (ents:List (List Int × Int)) (xs:List Int),(∀kv∈ents,kv.1.length=n)→xs.length=n→(Instr.findKey k (keyV s xs) (mapEnts s ents 0)).run P w= .ok (fndE ents xs 0) w
structure MapOK (P:Program)(t n:Nat)(s:Bool):Prop where
 ex:∃k e i,P.underlying t=some (.map k e)∧P.info? e=some i∧i.zero=some (.int .i64 0)∧KeyOK P k n s
theorem one_of {xs:List Int}(h:xs.length=1):∃a,xs=[a]:=by
 match xs,h with
 |[a],_=>exact⟨a,rfl⟩
theorem keyOK_int {P:Program}{k:Nat}(hk:P.underlying k=some (.int .i64)):KeyOK P k 1 false:=by
 refine⟨fun em w xs hx=>?_,fun w ents xs hn hx=>?_⟩
 ·obtain⟨a,rfl⟩:=one_of hx
  exact MapKept.run_checkKey hk (by simp[keyV,MapKept.IsKey]) em 9999
 ·obtain⟨a,rfl⟩:=one_of hx
  refine MapKept.run_findKey hk ?_
  have:∀(l:List (List Int × Int)) (i:Nat),(∀kv∈l,kv.1.length=1)→Instr.findNow (.int .i64) (.int .i64 a) (mapEnts false l i) i=some (fndE l [a] i):=by
   intro l
   induction l with
   |nil=>intro i _;rfl
   |cons kv l ih=>
    intro i hl
    obtain⟨k,v⟩:=kv
    obtain⟨c,rfl⟩:=one_of (hl (k,v) (by simp))
    have ih:=ih (i+1) (fun kv h=>hl kv (by simp[h]))
    by_cases h:c=a
    ·subst h
     simp[mapEnts,fndE,Instr.findNow,Instr.sameNow,keyV]
    ·have h':(a==c)=false:=by simpa using fun e=>h e.symm
     simp[mapEnts,fndE,Instr.findNow,Instr.sameNow,keyV,h,ih]
     rw[h']
  exact this ents 0 hn
theorem keyOK_st {P:Program}{k n:Nat}(hw:(match P.underlying k with|some (.array _ _)|some (.struct _)=>true|_=>false)=true)(hc:∀(em:Bool) (w:World) (xs:List Int),xs.length=n→(Instr.checkKey em 10000 k (keyV true xs)).run P w= .ok () w)
 (he:∀(w:World) (xs ys:List Int),xs.length=n→ys.length=n→(Op.equal k (keyV true xs) (keyV true ys)).run P w= .ok (xs==ys) w):KeyOK P k n true:=by
 refine⟨hc,fun w ents xs hn hx=>?_⟩
 rw[run_findKey_eq w hw]
 have:∀(l:List (List Int × Int)) (i:Nat),(∀kv∈l,kv.1.length=n)→(Instr.findAsking k (keyV true xs) (mapEnts true l i) i).run P w= .ok (fndE l xs i) w:=by
  intro l
  induction l with
  |nil=>intro i _;rfl
  |cons kv l ih=>
   intro i hl
   obtain⟨k',v⟩:=kv
   have ih:=ih (i+1) (fun kv h=>hl kv (by simp[h]))
   have h0:=he w xs k' hx (hl (k',v) (by simp))
   simp only[mapEnts,Instr.findAsking]
   rw[Sem.run_bind,h0]
   simp only[Result.andThen,fndE]
   by_cases h:k'=xs
   ·subst h
    simp
   ·have h':(xs==k')=false:=by simpa using fun e=>h e.symm
    rw[h',if_neg h]
    exact ih
 exact this ents 0 hn
theorem mapOK_int {P:Program}{t k e:Nat}(ht:P.underlying t=some (.map k e))(hk:P.underlying k=some (.int .i64))(hz:(P.info? e).map (·.zero)=some (some (.int .i64 0))):MapOK P t 1 false:=by
 obtain⟨i,hi,hz⟩:=Option.map_eq_some_iff.1 hz
 exact⟨k,e,i,ht,hi,hz,keyOK_int hk⟩
theorem run_lookup {P:Program}{t n b:Nat}{s:Bool}(hm:MapOK P t n s){w:World}{ents:List (List Int × Int)}(hb:w.heap[b]? =some (.map (mapEnts s ents 0).toArray ents.length))(hn:∀kv∈ents,kv.1.length=n){xs:List Int}(hx:xs.length=n)(ok:Bool):
 (Instr.lookup t (.map (some b)) (keyV s xs) ok).run P w= .ok (if ok then .tuple #[.int .i64 ((lkE ents xs).getD 0),.bool (lkE ents xs).isSome]else .int .i64 ((lkE ents xs).getD 0)) w:=by
 obtain⟨k,e,i,ht,hi,hz,hk⟩:=hm.ex
 have hl:=fndE_lk ents xs 0
 unfold Instr.lookup
 simp only[Sem.run_bind,run_underlying ht,Result.andThen,MapKept.run_getObj_map hb,Sem.run_pure,hk.chk _ _ _ hx,hk.fnd _ _ _ hn hx]
 cases hf:fndE ents xs 0 with
 |none=>
  rw[hf]at hl
  have hl':lkE ents xs=none:=by
   cases h:lkE ents xs with
   |none=>rfl
   |some v=>rw[h]at hl;cases hl
  rw[hl']
  simp only[Sem.run_bind,zeroValue,typeInfo,run_program,hi,hz,Result.andThen,Sem.run_pure]
  cases ok<;>rfl
 |some iv=>
  rw[hf]at hl
  cases h:lkE ents xs with
  |none=>rw[h]at hl;cases hl
  |some v=>
   rw[h]at hl
   simp only[Option.map_some,Option.some.injEq]at hl
   simp only[Sem.run_pure,Result.andThen,hl]
   cases ok<;>rfl
theorem sameBits_key (s:Bool)(xs:List Int):Instr.sameBits 10000 (keyV s xs) (keyV s xs)=true:=by
 cases s with
 |false=>simp[keyV,Instr.sameBits]
 |true=>
  have:∀(l:List Int),((l.map (Value.int .i64)).zip (l.map (Value.int .i64))).all (fun(x,y)=>Instr.sameBits 9999 x y)=true:=by
   intro l
   induction l with
   |nil=>rfl
   |cons a l ih=>simp only[List.map_cons,List.zip_cons_cons,List.all_cons,ih,Bool.and_true];simp[Instr.sameBits]
  simp only[keyV,if_true,Instr.sameBits,beq_self_eq_true,Bool.true_and]
  exact this xs
theorem run_mapUpdate {P:Program}{t n b:Nat}{s:Bool}(hm:MapOK P t n s){w:World}{ents:List (List Int × Int)}(hb:w.heap[b]? =some (.map (mapEnts s ents 0).toArray ents.length))(hn:∀kv∈ents,kv.1.length=n){xs:List Int}(hx:xs.length=n)(v:Int):
 (Instr.mapUpdate t (.map (some b)) (keyV s xs) (.int .i64 v)).run P w= .ok () {w with heap:=w.heap.setIfInBounds b (.map (mapEnts s (upE ents xs v) 0).toArray (upE ents xs v).length)}:=by
 obtain⟨k,e,i,ht,hi,hz,hk⟩:=hm.ex
 unfold Instr.mapUpdate
 simp only[Sem.run_bind,run_underlying ht,Result.andThen,MapKept.run_getObj_map hb,hk.chk _ _ _ hx,hk.fnd _ _ _ hn hx]
 cases hf:fndE ents xs 0 with
 |none=>
  obtain⟨h1,h2⟩:=fndE_none s ents xs v 0 hf
  simp only[MapKept.run_setObj_map _ hb]
  rw[h1,h2]
  simp
 |some iv=>
  obtain⟨j,u⟩:=iv
  obtain⟨-,⟨e0,h2,h3⟩,h4,h5⟩:=fndE_some s ents xs v 0 j u hf
  rw[Nat.sub_zero]at h2 h4
  have h6:(mapEnts s ents 0).toArray[j]? =some e0:=by simpa using h2
  simp only[Sem.run_bind,h6,Option.map_some,Option.getD_some,h3,Instr.keyThatStays,sameBits_key,if_true,Sem.run_pure,Result.andThen,MapKept.run_setObj_map _ hb]
  rw[h5,←h4]
  simp
def keyP (s:Bool)(p:PV):Option (List Int):=
 match s,p with
 |false,.d (.v (.int .i64 a))=>some [a]
 |true,.d (.agg ds)=>intsD ds
 |_,_=>none
theorem keyP_rep {c:Cx}{w:World}{s:Bool}{p:PV}{xs:List Int}{v:Value}(h:keyP s p=some xs)(hr:RepP c w p v):v=keyV s xs:=by
 unfold keyP at h
 split at h
 ·cases h
  cases hr with|d _ _ hd=>cases hd;rfl
 ·cases hr with
  |d _ _ hd=>
   cases hd with
   |agg _ vs hl h1 hrep=>
    rw[ints_rep (xs:=xs) ⟨hl,hrep⟩ h]
    simp[keyV]
 ·cases h
theorem RealC.new_map {X:Cfg}{s:FS}{a:Act}{w:World}{c:Cx}(h:RealC X s a w c){k:Nat}(hk:s.heap k= .none)(hkm:¬k < X.m)(n:Nat)(sB:Bool):
 ∃c',RealC X {s with heap:=effH [(k,.mp n sB [])] s.heap} a (w.alloc (.map #[] 0)) c'∧RepP c' (w.alloc (.map #[] 0)) (.mref k) (.map (some w.heap.size)):=by
 have hck:=h.chunk k
 rw[hk]at hck
 cases hck with
 |none hb0 ho0=>
  have hx:=alloc_ext w (.map #[] 0)
  have hbk:(fun k'=>if k'=k then some w.heap.size else c.bl k') k=some w.heap.size:=if_pos rfl
  refine⟨{M:=fun b=>c.M b∨b=w.heap.size,bl:=fun k'=>if k'=k then some w.heap.size else c.bl k',ov:=c.ov},?_,.mref k _ hbk⟩
  have hle:c.le {M:=fun b=>c.M b∨b=w.heap.size,bl:=fun k'=>if k'=k then some w.heap.size else c.bl k',ov:=c.ov}:=
   ⟨fun k' b hb=>by
    have:k'≠k:=fun e=>by subst e;rw[hb0]at hb;cases hb
    show (if k'=k then some w.heap.size else c.bl k')=some b
    rw[if_neg this];exact hb,fun _ _ _ h=>h⟩
  refine h.new_chunk hk hkm hx hle (fun k' hne=>if_neg hne) (fun _ _=>rfl) (fun b=>?_) (fun b hb=>?_) (fun hkp=>?_)
  ·simp only[Cx.block,if_true,Option.some.injEq]
   exact⟨fun h=>h.imp id Eq.symm,fun h=>h.imp id Eq.symm⟩
  ·simp only[Cx.block,if_true,Option.some.injEq]at hb
   rw[size_alloc];omega
  ·exact .mp n sB [] w.heap.size hbk (by simpa[mapEnts]using alloc_at w (.map #[] 0)) (fun _ h=>by simp at h)
theorem RealC.set_map {X:Cfg}{s:FS}{a:Act}{w:World}{c:Cx}(h:RealC X s a w c){k n b:Nat}{sB:Bool}{ents ents':List (List Int × Int)}(hk:s.heap k= .mp n sB ents)(hb:c.bl k=some b)(hh:w.heap[b]? =some (.map (mapEnts sB ents 0).toArray ents.length))
 (hn:∀kv∈ents',kv.1.length=n):RealC X {s with heap:=effH [(k,.mp n sB ents')] s.heap} a {w with heap:=w.heap.setIfInBounds b (.map (mapEnts sB ents' 0).toArray ents'.length)} c:=by
 have hblk:c.block k (s.heap k)=some b:=by rw[hk];exact hb
 have hst:=MapKept.heap_set (o':= .map (mapEnts sB ents' 0).toArray ents'.length) hh
 refine h.turn c.le_refl rfl (fun _ _=>rfl) (fun _ _=>rfl) rfl rfl rfl (by simp) (fun b' _ hb'=>hst.2 b' (fun e=>hb' (by rw[e];exact hblk))) (fun b'=>?_) (fun b' hb'=>?_) (fun hkp=>?_)
 ·show c.M b'↔(c.M b'∧c.block k (s.heap k)≠some b')∨c.bl k=some b'
  rw[hblk,hb]
  constructor
  ·intro hm
   by_cases e:b=b'
   ·exact .inr (by rw[e])
   ·exact .inl ⟨hm,fun h=>e (Option.some.inj h)⟩
  ·rintro (⟨hm,_⟩|e)
   ·exact hm
   ·exact(h.mu b').2 (.inr ⟨k,by rw[hblk];exact e⟩)
 ·have e:c.bl k=some b':=hb'
  refine⟨.inl (by rw[hblk,←hb];exact e),?_⟩
  simp only[Array.size_setIfInBounds]
  exact(h.new k b' (by rw[hblk,←hb];exact e)).2
 ·exact .mp n sB ents' b hb hst.1 hn
section
variable {X:Cfg}{ops:Array Oper}{s:FS}{o:Oper}(hd:∀d,o.dst=some d→d < X.n)
include hd
theorem op_makeMap {t nk n:Nat}{sB:Bool}(ho:o.op= .makeMap t none)(hk:s.heap nk= .none)(hkm:¬nk < X.m):OpOK X ops s o {pv:= .mref nk,eff:=[(nk,.mp n sB [])],touch:=[nk]}:=
 opok_gen hd (fun kc h=>by simp at h;subst h;simp) fun s' he hkk a w c hc=>by
  obtain⟨c',h1,h2⟩:=hc.new_map (k:=nk) (by rw[hkk nk (by simp)];exact hk) hkm n sB
  refine⟨_,_,_,?_,.inl rfl,c',h1,h2⟩
  simp only[execOp,ho,Option.map_none]
  rw[Sem.run_bind,run_makeMap]
  rfl
theorem op_lookup {t k n:Nat}{sB ok:Bool}{m x:Operand}{ents:List (List Int × Int)}{xs:List Int}(ho:o.op= .lookup t m x ok)(hm:MapOK X.P t n sB)(hmr:ev s m= .mref k)(hk:s.heap k= .mp n sB ents)(hx:keyP sB (ev s x)=some xs)(hxn:xs.length=n):
 OpOK X ops s o {pv:=if ok then .d (.tup [.v (.int .i64 ((lkE ents xs).getD 0)),.v (.bool (lkE ents xs).isSome)])else .d (.v (.int .i64 ((lkE ents xs).getD 0))),touch:=[k]}:=
 opok_read hd fun s' he hkk a w c hc=>by
  have e1:=ev_ok hc m
  rw[he m (by simp[ho,Op.operands]),hmr]at e1
  have e2:=ev_ok hc x
  rw[he x (by simp[ho,Op.operands])]at e2
  have e3:=keyP_rep hx e2
  have hk':s'.heap k= .mp n sB ents:=by rw[hkk k (by simp)];exact hk
  have hck:=hc.chunk k
  rw[hk']at hck
  generalize hu:a.eval m=u at e1
  cases e1 with
  |mref _ b hb=>
   cases hck with
   |mp _ _ _ b' hb' hh hn=>
    rw[hb]at hb'
    cases hb'
    have hrun:=run_lookup hm hh hn hxn ok
    refine⟨if ok then .tuple #[.int .i64 ((lkE ents xs).getD 0),.bool (lkE ents xs).isSome]else .int .i64 ((lkE ents xs).getD 0),?_,?_⟩
    ·simp only[execOp,ho,hu,e3]
     rw[Sem.run_bind,hrun]
     rfl
    ·cases ok with
     |false=>exact .d _ _ (.v _)
     |true=>
      refine .d _ _ (.tup _ [_,_] rfl ?_)
      intro j d y h1 h2
      match j with
      |0=>simp at h1 h2;subst h1;subst h2;exact .v _
      |1=>simp at h1 h2;subst h1;subst h2;exact .v _
      |j+2=>simp at h1
theorem op_mapUpdate {t k n:Nat}{sB:Bool}{m x y:Operand}{ents:List (List Int × Int)}{xs:List Int}{v:Int}(ho:o.op= .mapUpdate t m x y∨o.op= .insert t m x y)(hdst:o.dst=none)(hm:MapOK X.P t n sB)(hmr:ev s m= .mref k)(hk:s.heap k= .mp n sB ents)(hx:keyP sB (ev s x)=some xs)(hxn:xs.length=n)
 (hy:ev s y= .d (.v (.int .i64 v))):OpOK X ops s o {pv:= .any,eff:=[(k,.mp n sB (upE ents xs v))],touch:=[k]}:=
 opok_gen hd (fun kc h=>by simp at h;subst h;simp) fun s' he hkk a w c hc=>by
  have hin:m∈o.op.operands∧x∈o.op.operands∧y∈o.op.operands:=by rcases ho with ho|ho<;>simp[ho,Op.operands]
  have e1:=ev_ok hc m
  rw[he m hin.1,hmr]at e1
  have e2:=ev_ok hc x
  rw[he x hin.2.1]at e2
  have e3:=keyP_rep hx e2
  have e4:=ev_ok hc y
  rw[he y hin.2.2,hy]at e4
  have hk':s'.heap k= .mp n sB ents:=by rw[hkk k (by simp)];exact hk
  have hck:=hc.chunk k
  rw[hk']at hck
  generalize hu:a.eval m=u at e1
  generalize hv:a.eval y=vy at e4
  cases e4 with
  |d _ _ e4=>
  cases e4
  cases e1 with
  |mref _ b hb=>
   cases hck with
   |mp _ _ _ b' hb' hh hn=>
    rw[hb]at hb'
    cases hb'
    have hrun:=run_mapUpdate hm hh hn hxn v
    have h3:=hc.set_map hk' hb hh (upE_mem (v:=v) hn hxn)
    refine⟨.skip,undef,_,?_,.inr ⟨rfl,rfl⟩,c,h3,.any _⟩
    rcases ho with ho|ho
    ·simp only[execOp,ho,hu,hv,e3]
     rw[Sem.run_bind,hrun]
     rfl
    ·simp only[execOp,ho,hu,hv,e3]
     rw[Sem.run_bind,hrun]
     rfl
end
def FnOK (P:Program)(f:Nat):Prop:=∀(args:Array Value) (w:World),(callFunc f args).run P w= .ok (.enter f args) w
def PSpec (P:Program)(f:Nat)(args:List D)(r:D):Prop:=
 FnOK P f∧∀(M:Nat→Prop) (w:World) (vs:List Value),(∀b,M b→b < w.heap.size)→GInv M w→RepDs M w args vs→Calls P f vs.toArray w fun e w'=>∃v,e= .returned v∧RepD M w' r v∧Ext w w'
def D.isV:D→Bool
 | .v _=>true
 |_=>false
def D.flat:D→Bool
 | .v _=>true
 | .agg l=>l.all D.isV
 | .tup l=>l.all fun d=>match d with| .v _=>true| .agg l=>l.all D.isV|_=>false
 |_=>false
theorem isV_rep {M M':Nat→Prop}{w w':World}{d:D}{v:Value}(h:RepD M w d v)(hf:d.isV=true):RepD M' w' d v:=by
 cases d<;>simp[D.isV]at hf
 cases h
 exact .v _
theorem flat_rep {M M':Nat→Prop}{w w':World}{d:D}{v:Value}(h:RepD M w d v)(hf:d.flat=true):RepD M' w' d v:=by
 cases h with
 |v=>exact .v _
 |agg cells vs hl h1 hrep=>
  simp only[D.flat,List.all_eq_true]at hf
  exact .agg cells vs hl h1 fun j d x hj hx=>isV_rep (hrep j d x hj hx) (hf d (List.mem_of_getElem? hj))
 |tup ds vs hl hrep=>
  simp only[D.flat,List.all_eq_true]at hf
  refine .tup ds vs hl fun j d x hj hx=>?_
  have h0:=hrep j d x hj hx
  have h1:=hf d (List.mem_of_getElem? hj)
  cases h0 with
  |v=>exact .v _
  |agg cells us hl' h1' hrep'=>
   simp only[List.all_eq_true]at h1
   exact .agg cells us hl' h1' fun j d x hj hx=>isV_rep (hrep' j d x hj hx) (h1 d (List.mem_of_getElem? hj))
  |_=>simp at h1
 |_=>simp[D.flat]at hf
def viewL (f:PV→Option D):List PV→Option (List D)
 |[]=>some []
 |p::l=>match f p,viewL f l with|some d,some ds=>some (d::ds)|_,_=>none
def viewR (f:PV→Option D):List (List PV)→Option (List (List D))
 |[]=>some []
 |r::l=>match viewL f r,viewR f l with|some d,some ds=>some (d::ds)|_,_=>none
def viewF (h:Nat→Chunk):Nat→PV→Option D
 |_,.d x=>some x
 |n+1,.own k g=>match h k with| .row _ sz g' rows=>if g=g' then (viewR (viewF h n) rows).map (.sl sz)else none|_=>none
 |n+1,.ptr k off=>match h k with| .box _ cells=>(viewL (viewF h n) (cells.drop off)).map .ept|_=>none
 |n+1,.rp k g sz i j=>match h k with| .row _ sz' g' rows=>if g=g'∧sz=sz' then (match rows[i]? with|some row=>(viewL (viewF h n) (row.drop j)).map .ept|none=>none)else none|_=>none
 |n+1,.osl k g sz a m=>match h k with| .row _ sz' g' rows=>if g=g'∧sz=sz'∧0 < rows.length then (viewR (viewF h n) ((rows.drop a).take m)).map (.sl sz)else none|_=>none
 |n+1,.clo g caps=>(viewL (viewF h n) caps).map (.clo g)
 |n+1,.agg cells=>(viewL (viewF h n) cells).map .agg
 |n+1,.tup l=>(viewL (viewF h n) l).map .tup
 |_,_=>none
def tchL (f:PV→List Nat):List PV→List Nat
 |[]=>[]
 |p::l=>f p++tchL f l
def tchR (f:PV→List Nat):List (List PV)→List Nat
 |[]=>[]
 |r::l=>tchL f r++tchR f l
def tchF (h:Nat→Chunk):Nat→PV→List Nat
 |_,.d _=>[]
 |n+1,.own k _=>k::(match h k with| .row _ _ _ rows=>tchR (tchF h n) rows|_=>[])
 |n+1,.ptr k off=>k::(match h k with| .box _ cells=>tchL (tchF h n) (cells.drop off)|_=>[])
 |n+1,.rp k _ _ i j=>k::(match h k with| .row _ _ _ rows=>tchL (tchF h n) (((rows[i]?).getD []).drop j)|_=>[])
 |n+1,.osl k _ _ _ _=>k::(match h k with| .row _ _ _ rows=>tchR (tchF h n) rows|_=>[])
 |n+1,.clo _ caps=>tchL (tchF h n) caps
 |n+1,.agg cells=>tchL (tchF h n) cells
 |n+1,.tup l=>tchL (tchF h n) l
 |_,_=>[]
theorem viewF_d (h:Nat→Chunk)(n:Nat)(x:D):viewF h n (.d x)=some x:=by cases n<;>rfl
theorem tchF_d (h:Nat→Chunk)(n:Nat)(x:D):tchF h n (.d x)=[]:=by cases n<;>rfl
theorem viewL_d (h:Nat→Chunk)(n:Nat):∀(l:List D),viewL (viewF h n) (l.map .d)=some l
 |[]=>rfl
 |x::l=>by simp only[List.map_cons,viewL,viewF_d,viewL_d h n l]
theorem tchL_d (h:Nat→Chunk)(n:Nat):∀(l:List D),tchL (tchF h n) (l.map .d)=[]
 |[]=>rfl
 |x::l=>by simp only[List.map_cons,tchL,tchF_d,tchL_d h n l,List.append_nil]
theorem viewR_d (h:Nat→Chunk)(n:Nat):∀(l:List (List D)),viewR (viewF h n) (dRows l)=some l
 |[]=>rfl
 |x::l=>by
  have:=viewR_d h n l
  simp only[dRows]at this
  simp only[dRows,List.map_cons,viewR,viewL_d,this]
theorem tchR_d (h:Nat→Chunk)(n:Nat):∀(l:List (List D)),tchR (tchF h n) (dRows l)=[]
 |[]=>rfl
 |x::l=>by
  have:=tchR_d h n l
  simp only[dRows]at this
  simp only[dRows,List.map_cons,tchR,tchL_d,this,List.append_nil]
theorem tchL_mem {f:PV→List Nat}:∀{l:List PV}{p:PV},p∈l→∀k∈f p,k∈tchL f l
 |q::l,p,h,k,hk=>by
  rcases List.mem_cons.1 h with rfl|h
  ·exact List.mem_append_left _ hk
  ·exact List.mem_append_right _ (tchL_mem h k hk)
theorem tchR_mem {f:PV→List Nat}:∀{l:List (List PV)}{r:List PV}{p:PV},r∈l→p∈r→∀k∈f p,k∈tchR f l
 |q::l,r,p,h,hp,k,hk=>by
  rcases List.mem_cons.1 h with rfl|h
  ·exact List.mem_append_left _ (tchL_mem hp k hk)
  ·exact List.mem_append_right _ (tchR_mem h hp k hk)
theorem viewL_same {f f':PV→Option D}:∀{l:List PV},(∀p∈l,f' p=f p)→viewL f' l=viewL f l
 |[],_=>rfl
 |p::l,e=>by simp only[viewL,e p (by simp),viewL_same (l:=l) fun q hq=>e q (by simp[hq])]
theorem viewR_same {f f':PV→Option D}:∀{l:List (List PV)},(∀r∈l,∀p∈r,f' p=f p)→viewR f' l=viewR f l
 |[],_=>rfl
 |r::l,e=>by simp only[viewR,viewL_same (e r (by simp)),viewR_same (l:=l) fun q hq=>e q (by simp[hq])]
theorem tchL_same {f f':PV→List Nat}:∀{l:List PV},(∀p∈l,f' p=f p)→tchL f' l=tchL f l
 |[],_=>rfl
 |p::l,e=>by simp only[tchL,e p (by simp),tchL_same (l:=l) fun q hq=>e q (by simp[hq])]
theorem tchR_same {f f':PV→List Nat}:∀{l:List (List PV)},(∀r∈l,∀p∈r,f' p=f p)→tchR f' l=tchR f l
 |[],_=>rfl
 |r::l,e=>by simp only[tchR,tchL_same (e r (by simp)),tchR_same (l:=l) fun q hq=>e q (by simp[hq])]
theorem viewF_same {h h':Nat→Chunk}:∀(n:Nat) (p:PV),(∀k∈tchF h n p,h' k=h k)→viewF h' n p=viewF h n p∧tchF h' n p=tchF h n p
 |0,p,_=>by cases p<;>exact⟨rfl,rfl⟩
 |n+1,p,e=>by
  cases p with
  |own k g=>
   have hk:=e k (by simp[tchF])
   simp only[viewF,tchF,hk]
   cases hb:h k with
   |row E sz g' rows=>
    have key:∀r∈rows,∀q∈r,viewF h' n q=viewF h n q∧tchF h' n q=tchF h n q:=fun r hr q hq=>viewF_same n q fun k' hk'=>e k' (by
     simp only[tchF,hb,List.mem_cons]
     exact .inr (tchR_mem hr hq k' hk'))
    simp only
    rw[viewR_same fun r hr q hq=>(key r hr q hq).1,tchR_same fun r hr q hq=>(key r hr q hq).2]
    exact⟨rfl,rfl⟩
   |_=>exact⟨rfl,rfl⟩
  |ptr k off=>
   have hk:=e k (by simp[tchF])
   simp only[viewF,tchF,hk]
   cases hb:h k with
   |box T cells=>
    have key:∀q∈cells.drop off,viewF h' n q=viewF h n q∧tchF h' n q=tchF h n q:=fun q hq=>viewF_same n q fun k' hk'=>e k' (by
     simp only[tchF,hb,List.mem_cons]
     exact .inr (tchL_mem hq k' hk'))
    simp only
    rw[viewL_same fun q hq=>(key q hq).1,tchL_same fun q hq=>(key q hq).2]
    exact⟨rfl,rfl⟩
   |_=>exact⟨rfl,rfl⟩
  |rp k g sz i j=>
   have hk:=e k (by simp[tchF])
   simp only[viewF,tchF,hk]
   cases hb:h k with
   |row E sz' g' rows=>
    have key:∀q∈((rows[i]?).getD []).drop j,viewF h' n q=viewF h n q∧tchF h' n q=tchF h n q:=fun q hq=>viewF_same n q fun k' hk'=>e k' (by
     simp only[tchF,hb,List.mem_cons]
     exact .inr (tchL_mem hq k' hk'))
    simp only
    refine⟨?_,by rw[tchL_same fun q hq=>(key q hq).2]⟩
    cases hri:rows[i]? with
    |none=>rfl
    |some row=>
     rw[hri]at key
     simp only[Option.getD_some]at key
     simp only
     rw[viewL_same fun q hq=>(key q hq).1]
   |_=>exact⟨rfl,rfl⟩
  |osl k g sz a m=>
   have hk:=e k (by simp[tchF])
   simp only[viewF,tchF,hk]
   cases hb:h k with
   |row E sz g' rows=>
    have key:∀r∈rows,∀q∈r,viewF h' n q=viewF h n q∧tchF h' n q=tchF h n q:=fun r hr q hq=>viewF_same n q fun k' hk'=>e k' (by
     simp only[tchF,hb,List.mem_cons]
     exact .inr (tchR_mem hr hq k' hk'))
    simp only
    rw[viewR_same (l:=(rows.drop a).take m) fun r hr q hq=>(key r (List.mem_of_mem_drop (List.mem_of_mem_take hr)) q hq).1,tchR_same fun r hr q hq=>(key r hr q hq).2]
    exact⟨rfl,rfl⟩
   |_=>exact⟨rfl,rfl⟩
  |clo g caps=>
   have key:∀q∈caps,viewF h' n q=viewF h n q∧tchF h' n q=tchF h n q:=fun q hq=>viewF_same n q fun k' hk'=>e k' (tchL_mem hq k' hk')
   simp only[viewF,tchF]
   rw[viewL_same fun q hq=>(key q hq).1,tchL_same fun q hq=>(key q hq).2]
   exact⟨rfl,rfl⟩
  |agg caps=>
   have key:∀q∈caps,viewF h' n q=viewF h n q∧tchF h' n q=tchF h n q:=fun q hq=>viewF_same n q fun k' hk'=>e k' (tchL_mem hq k' hk')
   simp only[viewF,tchF]
   rw[viewL_same fun q hq=>(key q hq).1,tchL_same fun q hq=>(key q hq).2]
   exact⟨rfl,rfl⟩
  |tup caps=>
   have key:∀q∈caps,viewF h' n q=viewF h n q∧tchF h' n q=tchF h n q:=fun q hq=>viewF_same n q fun k' hk'=>e k' (tchL_mem hq k' hk')
   simp only[viewF,tchF]
   rw[viewL_same fun q hq=>(key q hq).1,tchL_same fun q hq=>(key q hq).2]
   exact⟨rfl,rfl⟩
  |_=>exact⟨rfl,rfl⟩
def lessM (c:Cx)(h:Nat→Chunk)(T:List Nat)(b:Nat):Prop:=c.M b∧∀k∈T,c.block k (h k)≠some b
theorem less_keep (c:Cx)(h:Nat→Chunk)(T:List Nat)(w:World):Keep c.M w (lessM c h T) w:=⟨Nat.le_refl _,fun _ _ _=>rfl,fun _ _ h=>h.1⟩
theorem viewL_at {f:PV→Option D}:∀{l:List PV}{ds:List D},viewL f l=some ds→l.length=ds.length∧∀(j:Nat) (d:D),ds[j]? =some d→∃p,l[j]? =some p∧f p=some d
 |[],ds,h=>by simp[viewL]at h;subst h;simp
 |p::l,ds,h=>by
  simp only[viewL]at h
  split at h
  ·rename_i d es h1 h2
   cases h
   obtain⟨q1,q2⟩:=viewL_at h2
   refine⟨by simp[q1],fun j e hj=>?_⟩
   cases j with
   |zero=>simp at hj;subst hj;exact⟨p,rfl,h1⟩
   |succ j=>simpa using q2 j e (by simpa using hj)
  ·cases h
theorem viewR_at {f:PV→Option D}:∀{l:List (List PV)}{ds:List (List D)},viewR f l=some ds→l.length=ds.length∧∀(j:Nat) (d:List D),ds[j]? =some d→∃p,l[j]? =some p∧viewL f p=some d
 |[],ds,h=>by simp[viewR]at h;subst h;simp
 |p::l,ds,h=>by
  simp only[viewR]at h
  split at h
  ·rename_i d es h1 h2
   cases h
   obtain⟨q1,q2⟩:=viewR_at h2
   refine⟨by simp[q1],fun j e hj=>?_⟩
   cases j with
   |zero=>simp at hj;subst hj;exact⟨p,rfl,h1⟩
   |succ j=>simpa using q2 j e (by simpa using hj)
  ·cases h
theorem viewF_one {h:Nat→Chunk}{n:Nat}{p:PV}{d:D}(hv:viewF h n p=some d)(h1:p.one=true):d.one=true:=by
 cases p with
 |d x=>rw[viewF_d]at hv;cases hv;exact h1
 |agg=>simp[PV.one]at h1
 |tup=>simp[PV.one]at h1
 |any=>simp[PV.one]at h1
 |own k g=>
  cases n with
  |zero=>cases hv
  |succ n=>
   simp only[viewF]at hv
   split at hv
   ·split at hv
    ·simp only[Option.map_eq_some_iff]at hv;obtain⟨_,_,rfl⟩:=hv;rfl
    ·cases hv
   ·cases hv
 |ptr k off=>
  cases n with
  |zero=>cases hv
  |succ n=>
   simp only[viewF]at hv
   split at hv
   ·simp only[Option.map_eq_some_iff]at hv;obtain⟨_,_,rfl⟩:=hv;rfl
   ·cases hv
 |rp k g sz i j=>
  cases n with
  |zero=>cases hv
  |succ n=>
   simp only[viewF]at hv
   split at hv
   ·split at hv
    ·split at hv
     ·simp only[Option.map_eq_some_iff]at hv;obtain⟨_,_,rfl⟩:=hv;rfl
     ·cases hv
    ·cases hv
   ·cases hv
 |clo g caps=>
  cases n with
  |zero=>cases hv
  |succ n=>simp only[viewF,Option.map_eq_some_iff]at hv;obtain⟨_,_,rfl⟩:=hv;rfl
 |osl k g sz a m=>
  cases n with
  |zero=>cases hv
  |succ n=>
   simp only[viewF]at hv
   split at hv
   ·split at hv
    ·simp only[Option.map_eq_some_iff]at hv;obtain⟨_,_,rfl⟩:=hv;rfl
    ·cases hv
   ·cases hv
 |mref=>cases n<;>cases hv
theorem block_lt {w:World}{b:Nat}{o:Obj}(h:w.heap[b]? =some o):b < w.heap.size:=by
 rcases Nat.lt_or_ge b w.heap.size with hl|hl
 ·exact hl
 ·rw[Array.getElem?_eq_none hl]at h;cases h
section
variable {X:Cfg}{s:FS}{a:Act}{w:World}{c:Cx}(hc:RealC X s a w c){T:List Nat}
include hc
theorem viewF_ok:∀(n:Nat) {p:PV}{d:D}{v:Value},viewF s.heap n p=some d→(∀k∈tchF s.heap n p,k∈T)→RepP c w p v→RepD (lessM c s.heap T) w d v
 |0,p,d,v,hv,ht,hr=>by
  cases p with
  |d x=>cases hv;exact(repD_inv hr).keep (less_keep c s.heap T w)
  |_=>cases hv
 |n+1,p,d,v,hv,ht,hr=>by
  have many:∀(l:List PV) (ds:List D) (vs:List Value),viewL (viewF s.heap n) l=some ds→(∀k∈tchL (tchF s.heap n) l,k∈T)→RepPs c w l vs→RepDs (lessM c s.heap T) w ds vs:=by
   intro l ds vs hds hT hl
   obtain⟨q1,q2⟩:=viewL_at hds
   refine⟨by rw[←q1];exact hl.1,fun j d x hj hx=>?_⟩
   obtain⟨p,hp,hpd⟩:=q2 j d hj
   exact viewF_ok n hpd (fun k hk=>hT k (tchL_mem (List.mem_of_getElem? hp) k hk)) (hl.2 j p x hp hx)
  cases p with
  |d x=>rw[viewF_d]at hv;cases hv;exact(repD_inv hr).keep (less_keep c s.heap T w)
  |own k g=>
   simp only[viewF]at hv
   split at hv
   ·rename_i E sz g' rows hk
    split at hv
    ·rename_i e
     subst e
     simp only[Option.map_eq_some_iff]at hv
     obtain⟨drows,hds,rfl⟩:=hv
     obtain⟨q1,q2⟩:=viewR_at hds
     have hck:=hc.chunk k
     rw[hk]at hck
     have hkT:k∈T:=ht k (by simp[tchF])
     have hsub:∀r∈rows,∀p∈r,∀k'∈tchF s.heap n p,k'∈T:=fun r hr p hp k' hk'=>ht k' (by
      simp only[tchF,hk,List.mem_cons]
      exact .inr (tchR_mem hr hp k' hk'))
     cases hr with
     |own _ _ _ hov _=>
      cases hck with
      |row _ _ _ _ u xs hu hown hrr hsz h1 hg=>
       rw[hov]at hu
       cases hu
       generalize hn:rows.length=n' at hown
       have nilc:n'=0→drows=[]:=fun h0=>List.eq_nil_of_length_eq_zero (by omega)
       cases hown with
       |nil=>rw[nilc rfl];exact .nil sz none 0 (by omega)
       |zero ad=>rw[nilc rfl];exact .nil sz (some ad) 0 (by omega)
       |row gb _ cap cur _ h0 hh hnc hm hs hl htk=>
        subst hn
        have hxs:∀j,j < rows.length*sz→cur[j]? =xs[j]? :=by
         intro j hj
         rw[←htk,List.getElem?_take_of_lt hj,Array.getElem?_toList]
        rw[q1]
        refine .sl sz drows gb 0 cap (fun i j=>xs.getD (i*sz+j) undef) (fun hm'=>hm'.2 k hkT (by rw[hk];simp[Cx.block,hov,ownB_pos h0])) (block_lt hh) (by omega) (by simpa[maxLen]using hm) (fun r hr=>?_) (fun r hr d hd=>?_) (fun i j hi hj=>?_) (fun i j row d hi hj=>?_)
        ·obtain⟨j,hj,e⟩:=List.getElem_of_mem hr
         obtain⟨p,hp,hpd⟩:=q2 j r (by rw[←e];exact List.getElem?_eq_getElem hj)
         rw[←(viewL_at hpd).1]
         exact hsz p (List.mem_of_getElem? hp)
        ·obtain⟨j,hj,e⟩:=List.getElem_of_mem hr
         obtain⟨p,hp,hpd⟩:=q2 j r (by rw[←e];exact List.getElem?_eq_getElem hj)
         obtain⟨j2,hj2,e2⟩:=List.getElem_of_mem hd
         obtain⟨p2,hp2,hpd2⟩:=(viewL_at hpd).2 j2 d (by rw[←e2];exact List.getElem?_eq_getElem hj2)
         exact viewF_one hpd2 (h1 p (List.mem_of_getElem? hp) p2 (List.mem_of_getElem? hp2))
        ·have hij:i*sz+j < rows.length*sz:=by
          have:(i+1)*sz≤rows.length*sz:=Nat.mul_le_mul_right sz (by omega)
          rw[Nat.succ_mul]at this;omega
         rw[Nat.zero_add]
         simp only[World.cell?,hh,hxs _ hij]
         simp[List.getD_eq_getElem?_getD,List.getElem?_eq_getElem (show i*sz+j < xs.length by omega)]
        ·obtain⟨p,hp,hpd⟩:=q2 i row hi
         obtain⟨p2,hp2,hpd2⟩:=(viewL_at hpd).2 j d hj
         have hi':i < rows.length:=(List.getElem?_eq_some_iff.1 hp).1
         have hj':j < sz:=by rw[←hsz p (List.mem_of_getElem? hp)];exact(List.getElem?_eq_some_iff.1 hp2).1
         have hij:i*sz+j < rows.length*sz:=by
          have:(i+1)*sz≤rows.length*sz:=Nat.mul_le_mul_right sz hi'
          rw[Nat.succ_mul]at this;omega
         have hx:xs[i*sz+j]? =some xs[i*sz+j]:=List.getElem?_eq_getElem (by omega)
         have:=hrr.2 (i*sz+j) p2 _ (by rw[flatten_atG hsz i j hj',hp];exact hp2) hx
         have:=viewF_ok n hpd2 (hsub p (List.mem_of_getElem? hp) p2 (List.mem_of_getElem? hp2)) this
         simpa[List.getD_eq_getElem?_getD,hx]using this
    ·cases hv
   ·cases hv
  |ptr k off=>
   simp only[viewF]at hv
   split at hv
   ·rename_i TT cells hk
    simp only[Option.map_eq_some_iff]at hv
    obtain⟨ds,hds,rfl⟩:=hv
    have hck:=hc.chunk k
    rw[hk]at hck
    cases hr with
    |ptr _ _ b hb=>
     cases hck with
     |box _ _ b' vs hb' hh hrr h1=>
      rw[hb]at hb'
      cases hb'
      have hdr:RepPs c w (cells.drop off) (vs.drop off):=⟨by rw[List.length_drop,List.length_drop,hrr.1],fun j d x hj hx=>by
       rw[List.getElem?_drop]at hj hx
       exact hrr.2 _ d x hj hx⟩
      have hm:=many _ ds _ hds (fun k' hk'=>ht k' (by simp only[tchF,hk,List.mem_cons];exact .inr hk')) hdr
      obtain⟨q1,q2⟩:=viewL_at hds
      refine .ept ds b off (fun j=>(vs.drop off).getD j undef) (fun hm'=>hm'.2 k (ht k (by simp[tchF])) (by rw[hk];exact hb)) (block_lt hh) (fun d hd=>?_) (fun j hj=>?_) (fun j d hj=>?_)
      ·obtain⟨j,hj,e⟩:=List.getElem_of_mem hd
       obtain⟨p,hp,hpd⟩:=q2 j d (by rw[←e];exact List.getElem?_eq_getElem hj)
       exact viewF_one hpd (h1 p (List.mem_of_mem_drop (List.mem_of_getElem? hp)))
      ·have hl:off+j < vs.length:=by have:=hdr.1;rw[List.length_drop,List.length_drop]at this;rw[←q1,List.length_drop]at hj;have:=hrr.1;omega
       simp[World.cell?,hh,List.getD_eq_getElem?_getD,List.getElem?_drop,List.getElem?_eq_getElem hl]
      ·have hl:j < (vs.drop off).length:=by rw[←hm.1];exact(List.getElem?_eq_some_iff.1 hj).1
       have:=hm.2 j d _ hj (List.getElem?_eq_getElem hl)
       simpa[List.getD_eq_getElem?_getD,List.getElem?_eq_getElem hl]using this
   ·cases hv
  |rp k g sz i j=>
   simp only[viewF]at hv
   split at hv
   ·rename_i E sz' g' rows hk
    split at hv
    ·rename_i e
     obtain⟨rfl,rfl⟩:=e
     split at hv
     ·rename_i row hrow
      simp only[Option.map_eq_some_iff]at hv
      obtain⟨ds,hds,rfl⟩:=hv
      have hck:=hc.chunk k
      rw[hk]at hck
      cases hr with
      |rp _ _ _ _ _ b nn cap hb=>
       obtain⟨cur,xs,z1,z2,z3,z4,z5,z6,z7,z8,z9,z10,z11⟩:=row_cells hck hb (fun e=>by rw[e]at hrow;cases hrow)
       have hi:i < rows.length:=(List.getElem?_eq_some_iff.1 hrow).1
       have hrl:row.length=sz:=z5 row (List.mem_of_getElem? hrow)
       have hlim:(i+1)*sz≤rows.length*sz:=Nat.mul_le_mul_right sz hi
       rw[Nat.succ_mul]at hlim
       have hpart:=row_part z2 z5 hrow z3
       generalize hys:(xs.drop (i*sz)).take sz=ys at hpart
       have hyl:ys.length=sz:=by rw[←hpart.1,hrl]
       have hcell:∀j' v,ys[j']? =some v→cur[i*sz+j']? =some v:=by
        intro j' v hj'
        rw[←hys]at hj'
        obtain⟨hlt,hj'⟩:=take_drop_at hj'
        rw[z4 _ (by omega),hj']
       have hdr:RepPs c w (row.drop j) (ys.drop j):=⟨by rw[List.length_drop,List.length_drop,hpart.1],fun j d x hj hx=>by
        rw[List.getElem?_drop]at hj hx
        exact hpart.2 _ d x hj hx⟩
       have hm:=many _ ds _ hds (fun k' hk'=>ht k' (by simp only[tchF,hk,hrow,Option.getD_some,List.mem_cons];exact .inr hk')) hdr
       obtain⟨q1,q2⟩:=viewL_at hds
       have hov:c.block k (s.heap k)=ownB (.slice (some ⟨b,0,none⟩) nn cap):=by rw[hk];simp[Cx.block,hb]
       refine .ept ds b (i*sz+j) (fun j'=>(ys.drop j).getD j' undef) (fun hm'=>hm'.2 k (ht k (by simp[tchF])) (by rw[hov,ownB_pos (by omega)])) (block_lt z1) (fun d hd=>?_) (fun j' hj'=>?_) (fun j' d hj'=>?_)
       ·obtain⟨j',hj',e⟩:=List.getElem_of_mem hd
        obtain⟨p,hp,hpd⟩:=q2 j' d (by rw[←e];exact List.getElem?_eq_getElem hj')
        exact viewF_one hpd (z6 row (List.mem_of_getElem? hrow) p (List.mem_of_mem_drop (List.mem_of_getElem? hp)))
       ·have hl:j+j' < ys.length:=by rw[←q1,List.length_drop]at hj';omega
        have:=hcell (j+j') _ (List.getElem?_eq_getElem hl)
        simp only[World.cell?,z1]
        rw[Nat.add_assoc,this]
        simp[List.getD_eq_getElem?_getD,List.getElem?_drop,List.getElem?_eq_getElem hl]
       ·have hl:j' < (ys.drop j).length:=by rw[←hm.1];exact(List.getElem?_eq_some_iff.1 hj').1
        have:=hm.2 j' d _ hj' (List.getElem?_eq_getElem hl)
        simpa[List.getD_eq_getElem?_getD,List.getElem?_eq_getElem hl]using this
     ·cases hv
    ·cases hv
   ·cases hv
  |clo g caps=>
   simp only[viewF,Option.map_eq_some_iff]at hv
   obtain⟨ds,hds,rfl⟩:=hv
   cases hr with
   |clo _ _ vs hl hrep=>
    have hm:=many _ ds _ hds (fun k' hk'=>ht k' hk') ⟨hl,hrep⟩
    exact .clo g ds vs hm.1 hm.2
  |agg cells=>
   simp only[viewF,Option.map_eq_some_iff]at hv
   obtain⟨ds,hds,rfl⟩:=hv
   cases hr with
   |agg _ vs hl h1 hrep=>
    have hm:=many _ ds _ hds (fun k' hk'=>ht k' hk') ⟨hl,hrep⟩
    refine .agg ds vs hm.1 (fun d hd=>?_) hm.2
    obtain⟨j,hj,e⟩:=List.getElem_of_mem hd
    obtain⟨p,hp,hpd⟩:=(viewL_at hds).2 j d (by rw[←e];exact List.getElem?_eq_getElem hj)
    exact viewF_one hpd (h1 p (List.mem_of_getElem? hp))
  |tup cells=>
   simp only[viewF,Option.map_eq_some_iff]at hv
   obtain⟨ds,hds,rfl⟩:=hv
   cases hr with
   |tup _ vs hl hrep=>
    have hm:=many _ ds _ hds (fun k' hk'=>ht k' hk') ⟨hl,hrep⟩
    exact .tup ds vs hm.1 hm.2
  |any=>cases hv
  |osl k g sz a m=>
   simp only[viewF]at hv
   split at hv
   ·rename_i E sz' g' rows hk
    split at hv
    ·rename_i e
     obtain⟨rfl,rfl,hpos⟩:=e
     simp only[Option.map_eq_some_iff]at hv
     obtain⟨drows,hds,rfl⟩:=hv
     obtain⟨q1,q2⟩:=viewR_at hds
     have hck:=hc.chunk k
     rw[hk]at hck
     have hkT:k∈T:=ht k (by simp[tchF])
     have hsub:∀r∈rows,∀p∈r,∀k'∈tchF s.heap n p,k'∈T:=fun r hr p hp k' hk'=>ht k' (by
      simp only[tchF,hk,List.mem_cons]
      exact .inr (tchR_mem hr hp k' hk'))
     cases hr with
     |osl _ _ _ _ _ b o N cap hov hn hcN hoo=>
      obtain⟨cur,xs,z1,z2,z3,z4,z5,z6,z7,z8,z9,z10,z11⟩:=row_cells hck hov (fun e=>by rw[e]at hpos;simp at hpos)
      have hlen:((rows.drop a).take m).length=m:=by rw[List.length_take,List.length_drop];omega
      rw[hlen]at q1
      rcases Nat.eq_zero_or_pos m with hm0|hm0
      ·subst hm0
       have:drows=[]:=List.eq_nil_of_length_eq_zero (by omega)
       subst this
       exact .nil sz _ _ (by simp[maxLen]at z9;omega)
      ·have ho:o=a*sz:=hoo (by omega)
       subst ho
       have hrow:∀(j:Nat) (p:List PV),((rows.drop a).take m)[j]? =some p→rows[a+j]? =some p∧j < m:=by
        intro j p hp
        have hj:j < m:=by have:=(List.getElem?_eq_some_iff.1 hp).1;rw[hlen]at this;exact this
        rw[List.getElem?_take_of_lt hj,List.getElem?_drop]at hp
        exact⟨hp,hj⟩
       have hidx:∀i j,a*sz+i*sz+j=(a+i)*sz+j:=fun i j=>by rw[Nat.add_mul]
       have hbnd:∀i j,i < m→j < sz→(a+i)*sz+j < rows.length*sz:=by
        intro i j hi hj
        have:(a+i+1)*sz≤rows.length*sz:=Nat.mul_le_mul_right sz (by omega)
        rw[Nat.succ_mul]at this;omega
       have hD:RepD (lessM c s.heap T) w (.sl sz drows) (.slice (some ⟨b,a*sz,none⟩) drows.length (cap - a)):=by
        refine .sl sz drows b (a*sz) (cap - a) (fun i j=>xs.getD ((a+i)*sz+j) undef) (fun hm'=>hm'.2 k hkT (by rw[hk];simp[Cx.block,hov,ownB_pos (show 0 < cap by omega)])) (block_lt z1) (by omega) (by simp[maxLen]at z9;omega) (fun r hr=>?_) (fun r hr d hd=>?_) (fun i j hi hj=>?_) (fun i j row d hi hj=>?_)
        ·obtain⟨j,hj,e⟩:=List.getElem_of_mem hr
         obtain⟨p,hp,hpd⟩:=q2 j r (by rw[←e];exact List.getElem?_eq_getElem hj)
         rw[←(viewL_at hpd).1]
         exact z5 p (List.mem_of_getElem? (hrow j p hp).1)
        ·obtain⟨j,hj,e⟩:=List.getElem_of_mem hr
         obtain⟨p,hp,hpd⟩:=q2 j r (by rw[←e];exact List.getElem?_eq_getElem hj)
         obtain⟨j2,hj2,e2⟩:=List.getElem_of_mem hd
         obtain⟨p2,hp2,hpd2⟩:=(viewL_at hpd).2 j2 d (by rw[←e2];exact List.getElem?_eq_getElem hj2)
         exact viewF_one hpd2 (z6 p (List.mem_of_getElem? (hrow j p hp).1) p2 (List.mem_of_getElem? hp2))
        ·have hb:=hbnd i j (by omega) hj
         rw[hidx]
         simp only[World.cell?,z1,z4 _ hb]
         simp[List.getD_eq_getElem?_getD,List.getElem?_eq_getElem (show (a+i)*sz+j < xs.length by omega)]
        ·obtain⟨p,hp,hpd⟩:=q2 i row hi
         obtain⟨p2,hp2,hpd2⟩:=(viewL_at hpd).2 j d hj
         obtain⟨hp',hi'⟩:=hrow i p hp
         have hj':j < sz:=by rw[←z5 p (List.mem_of_getElem? hp')];exact(List.getElem?_eq_some_iff.1 hp2).1
         have hb:=hbnd i j hi' hj'
         have hx:xs[(a+i)*sz+j]? =some xs[(a+i)*sz+j]:=List.getElem?_eq_getElem (by omega)
         have:=z2.2 ((a+i)*sz+j) p2 _ (by rw[flatten_atG z5 (a+i) j hj',hp'];exact hp2) hx
         have:=viewF_ok n hpd2 (hsub p (List.mem_of_getElem? hp') p2 (List.mem_of_getElem? hp2)) this
         simpa[List.getD_eq_getElem?_getD,hx]using this
       rw[←q1]at hD
       exact hD
    ·cases hv
   ·cases hv
  |mref=>cases hv
end
def vw (h:Nat→Chunk)(p:PV):Option D:=viewF h 6 p
def tc (h:Nat→Chunk)(p:PV):List Nat:=tchF h 6 p
theorem vw_same {h h':Nat→Chunk}{p:PV}(e:∀k∈tc h p,h' k=h k):vw h' p=vw h p:=(viewF_same 6 p e).1
theorem tc_same {h h':Nat→Chunk}{p:PV}(e:∀k∈tc h p,h' k=h k):tc h' p=tc h p:=(viewF_same 6 p e).2
section
variable {X:Cfg}{ops:Array Oper}{s:FS}{o:Oper}(hd:∀d,o.dst=some d→d < X.n)
include hd
theorem op_call {fo:Operand}{args:Array Operand}{tys:Array Nat}{g:Nat}{caps:List PV}{ds:List D}{r:D}(ho:o.op= .call {callee:= .value fo,args:=args,argTypes:=tys})
 (hf:ev s fo= .clo g caps∨∃cd:List D,ev s fo= .d (.clo g cd)∧caps=cd.map .d)
 (hv:viewL (vw s.heap) (args.toList.map (ev s)++caps)=some ds) (hp:PSpec X.P g ds r) (hfl:tchL (tc s.heap) (args.toList.map (ev s)++caps)=[]∨r.flat=true):
 OpOK X ops s o {pv:= .d r,touch:=tchL (tc s.heap) (args.toList.map (ev s)++caps)}:=by
 refine⟨hd,fun kc h=>by simp at h,fun s' he hkk a w hr K Q hK=>?_⟩
 obtain⟨c,hc⟩:=hr
 have hopers:∀x,(x=fo∨x∈args)→ev s' x=ev s x:=fun x hx=>ev_same he x (by
  rw[ho]
  simp only[Op.operands,Call.operands]
  rcases hx with rfl|hx
  ·simp
  ·simp[hx])
 have hargs:args.toList.map (ev s')=args.toList.map (ev s):=List.map_congr_left fun x hx=>hopers x (.inr (by simpa using hx))
 have hviews:viewL (vw s'.heap) (args.toList.map (ev s)++caps)=some ds:=by
  rw[←hv]
  exact viewL_same fun p hp=>vw_same fun k hk=>hkk k (tchL_mem hp k hk)
 have htch:∀p∈args.toList.map (ev s)++caps,∀k∈tc s'.heap p,k∈tchL (tc s.heap) (args.toList.map (ev s)++caps):=by
  intro p hp k hk
  refine tchL_mem hp k ?_
  have key:tc s'.heap p=tc s.heap p:=tc_same fun k hk=>hkk k (tchL_mem hp k hk)
  rw[←key];exact hk
 obtain⟨q1,q2⟩:=viewL_at hviews
 obtain⟨fvs,hfo,hfl2,hfr⟩:∃fvs:List Value,a.eval fo= .func (.func g) #[] fvs.toArray∧caps.length=fvs.length∧∀(j:Nat) (p:PV) (x:Value),caps[j]? =some p→fvs[j]? =some x→RepP c w p x:=by
  have h0:=ev_ok hc fo
  rw[hopers fo (.inl rfl)]at h0
  rcases hf with hf|⟨cd,hf,rfl⟩
  ·rw[hf]at h0
   generalize a.eval fo=u at h0
   cases h0 with
   |clo _ _ vs hl hrep=>exact⟨vs,rfl,hl,hrep⟩
  ·rw[hf]at h0
   generalize a.eval fo=u at h0
   have h0:=repD_inv h0
   cases h0 with
   |clo _ _ vs hl hrep=>
    refine⟨vs,rfl,by simpa using hl,fun j p x hj hx=>?_⟩
    simp only[List.getElem?_map,Option.map_eq_some_iff]at hj
    obtain⟨y,hy,rfl⟩:=hj
    exact .d _ _ (hrep j y x hy hx)
 have hrep:RepDs (lessM c s'.heap (tchL (tc s.heap) (args.toList.map (ev s)++caps))) w ds (args.toList.map a.eval++fvs):=by
  refine⟨by rw[←q1];simp[hfl2],fun j d x hj hx=>?_⟩
  obtain⟨p,hp,hpd⟩:=q2 j d hj
  refine viewF_ok hc 6 hpd (htch p (List.mem_of_getElem? hp)) ?_
  by_cases hlt:j < args.toList.length
  ·rw[List.getElem?_append_left (by simpa using hlt)]at hp hx
   simp only[List.getElem?_map,Option.map_eq_some_iff]at hp hx
   obtain⟨y,hy,rfl⟩:=hp
   obtain⟨y',hy',rfl⟩:=hx
   rw[hy]at hy'
   cases hy'
   have:=ev_ok hc y
   rwa [hopers y (.inr (by simpa using List.mem_of_getElem? hy))]at this
  ·rw[List.getElem?_append_right (by simpa using hlt)]at hp hx
   simp only[List.length_map]at hp hx
   exact hfr _ p x hp hx
 have hcall:=hp.2 _ w (args.toList.map a.eval++fvs) (fun b hb=>hc.lt hb.1) (hc.ginv.keep ⟨Nat.le_refl _,fun _ _ _=>rfl,fun b _ hb=>hb.1⟩) hrep
 have hrun:(execOp a.eval o).run X.P w= .ok (.enter g (args.toList.map a.eval++fvs).toArray) w:=by
  have e:(args.toList.map a.eval++fvs).toArray=args.map a.eval++fvs.toArray:=by
   apply Array.ext'
   simp
  rw[e]
  simp[execOp,ho,resolve,hfo,Deferred.ofValue,invoke]
  exact hp.1 _ _
 unfold Oper.wp
 rw[hrun,Oper.upon_enter]
 refine hcall.mono ?_
 rintro e w' ⟨v,rfl,hv',hx⟩
 have hgrow:=hc.grow hx
 refine hK v w' ⟨c,hgrow.put (.d _ _ ?_) hd⟩
 rcases hfl with h0|hflat
 ·refine hv'.keep ⟨Nat.le_refl _,fun _ _ _=>rfl,fun b _ hb=>⟨hb,fun k hk=>?_⟩⟩
  rw[h0]at hk
  simp at hk
 ·exact flat_rep hv' hflat
end
theorem fill_rows {size:Nat}(place:Nat→Option (Nat × Nat))(hpl:∀i,place i=some (i*size,size)):∀(vs:List Value) (i:Nat) (done rest:List Value),(∀v∈vs,v.cells.size=size)→done.length=i*size→rest.length=vs.length*size→
 Instr.fill place (done++rest).toArray ((vs.zipIdx i).map fun(v,j)=>(j,v))=some (done++(vs.map fun v=>v.cells.toList).flatten).toArray
 |[],i,done,rest,_,_,hr=>by
  have:rest=[]:=List.eq_nil_of_length_eq_zero (by simpa using hr)
  subst this
  simp[Instr.fill]
 |v::vs,i,done,rest,hv,hdn,hr=>by
  have h0:=hv v (by simp)
  rw[List.length_cons,Nat.succ_mul]at hr
  simp only[List.zipIdx_cons,List.map_cons]
  rw[fill_step place _ i (i*size) size v _ (hpl i) h0 (by simp;omega)]
  have e:setAt (done++rest) (i*size) v.cells.toList=(done++v.cells.toList)++rest.drop size:=by
   unfold setAt
   have hl:v.cells.toList.length=size:=by simpa using h0
   rw[←hdn,List.take_left,hl,List.drop_append,List.drop_of_length_le (by omega),List.nil_append]
   congr 1
   congr 1
   omega
  simp only[List.toList_toArray]
  rw[e,fill_rows place hpl vs (i+1) (done++v.cells.toList) (rest.drop size) (fun x hx=>hv x (by simp[hx])) (by rw[List.length_append,hdn,Nat.succ_mul];simp;omega) (by rw[List.length_drop];omega)]
  simp
section
variable {X:Cfg}{ops:Array Oper}{s:FS}{o:Oper}(hd:∀d,o.dst=some d→d < X.n)
include hd
theorem op_buildSlice {t e n sz:Nat}{parts:Array (Nat × Operand)}{ti te:TI}{rows:List (List D)}(ho:o.op= .buildSlice t n parts)(ht:tcheck X.P t=some ti)(he':ti.elem=some e)(hte:tcheck X.P e=some te)
 (hsz:te.size=sz) (hs0:0 < sz) (hn0:0 < n) (hsmall:n*sz≤16777216) (hnl:rows.length=n) (hps:parts.size=n) (hp:∀(j:Nat) (i:Nat) (x:Operand),parts[j]? =some (i,x)→i=j∧∃ds,rows[j]? =some ds∧dsOf (cellsP (ev s x))=some ds∧okP (ev s x)=true∧ds.length=sz):
 OpOK X ops s o {pv:= .d (.sl sz rows)}:=
 opok_gen hd (fun kc h=>by simp at h) fun s' he _ a w c hc=>by
  obtain⟨i,d,z,tk⟩:=tck ht
  obtain⟨ie,de,ze,tke⟩:=tck hte
  have hde:d= .slice e:=by
   have:=tk.elem
   rw[he']at this
   cases d<;>simp[elemD]at this
   rw[this]
  subst hde
  obtain⟨vs,hvs⟩:∃vs:List Value,vs=parts.toList.map fun p=>a.eval p.2:=⟨_,rfl⟩
  have hvl:vs.length=n:=by rw[hvs];simpa using hps
  have hrow:∀(j:Nat) (ds:List D) (v:Value),rows[j]? =some ds→vs[j]? =some v→RepDs c.M w ds v.cells.toList∧(∀e∈ds,e.one=true)∧ds.length=sz:=by
   intro j ds v hj hv
   rw[hvs]at hv
   simp only[List.getElem?_map,Array.getElem?_toList,Option.map_eq_some_iff]at hv
   obtain⟨⟨i,y⟩,hy,rfl⟩:=hv
   obtain⟨-,ds',g1,g2,g3,g4⟩:=hp j i y hy
   rw[hj]at g1
   cases g1
   have hmem:y∈o.op.operands:=by
    rw[ho]
    simp only[Op.operands,List.mem_toArray,List.mem_map]
    exact⟨(i,y),by simpa using Array.mem_of_getElem? hy,rfl⟩
   have hrep:=ev_ok hc y
   rw[he y hmem]at hrep
   obtain⟨r1,r2⟩:=cells_rep hrep g3
   have hcl:=dsOf_eq g2
   refine⟨⟨?_,fun k e v hk hv=>?_⟩,fun e he'=>?_,g4⟩
   ·have:=r1.1
    rw[hcl,List.length_map]at this
    exact this
   ·exact repD_inv (r1.2 k (.d e) v (by rw[hcl,List.getElem?_map,hk];rfl) hv)
   ·have:=r2 (.d e) (by rw[hcl];exact List.mem_map_of_mem he')
    exact this
  have hvsz:∀v∈vs,v.cells.size=sz:=by
   intro v hv
   obtain⟨j,hj,e⟩:=List.getElem_of_mem hv
   have hjr:j < rows.length:=by omega
   have:=(hrow j rows[j] v (List.getElem?_eq_getElem hjr) (by rw[←e];exact List.getElem?_eq_getElem hj))
   have h2:=this.1.1
   simp at h2
   omega
  have hparts:(parts.map fun(i,x)=>(i,a.eval x)).toList=((vs.zipIdx 0).map fun(v,j)=>(j,v)):=by
   apply List.ext_getElem?
   intro j
   simp only[Array.toList_map,List.getElem?_map,List.getElem?_zipIdx,hvs,Array.getElem?_toList]
   cases hj:parts[j]? with
   |none=>rfl
   |some ix=>
    obtain⟨i,x⟩:=ix
    obtain⟨rfl,-⟩:=hp j i x hj
    simp
  have hzc:ze.cells.size=sz:=by rw[←hsz,←tke.zsize,←tke.zcells];simp
  have hfill:Instr.fill (fun i=>some (i*sz,sz)) ((Array.range (n*sz)).map (ze.cells[· % ze.cells.size]!)) (parts.map fun(i,x)=>(i,a.eval x)).toList=some ((vs.map fun v=>v.cells.toList).flatten).toArray:=by
   have:=fill_rows (size:=sz) (fun i=>some (i*sz,sz)) (fun _=>rfl) vs 0 [] ((Array.range (n*sz)).map (ze.cells[· % ze.cells.size]!)).toList hvsz (by simp) (by simp[hvl])
   rw[hparts]
   rw[List.nil_append,List.nil_append,Array.toArray_toList]at this
   exact this
  have hfl:∀r∈vs.map fun v=>v.cells.toList,r.length=sz:=by
   intro r hr
   obtain⟨v,hv,rfl⟩:=List.mem_map.1 hr
   simpa using hvsz v hv
  have hx:=alloc_ext w (.cells ((vs.map fun v=>v.cells.toList).flatten).toArray e)
  refine⟨.value (.slice (some ⟨w.heap.size,0,none⟩) n n),_,w.alloc (.cells ((vs.map fun v=>v.cells.toList).flatten).toArray e),?_,.inl rfl,c,hc.grow hx,.d _ _ ?_⟩
  ·have hnew:∀o:Obj,({w with heap:=w.heap.push o}:World)=w.alloc o:=fun o=>(World.alloc_eq w o)
   have hrun:(Instr.buildSlice t n (parts.map fun(i,x)=>(i,a.eval x))).run X.P w= .ok (.slice (some ⟨w.heap.size,0,none⟩) n n) (w.alloc (.cells ((vs.map fun v=>v.cells.toList).flatten).toArray e)):=by
    have hne:¬(n*sz=0):=Nat.ne_of_gt (Nat.mul_pos hn0 hs0)
    unfold Instr.buildSlice
    simp only[Sem.run_bind,run_underlying tk.und,Result.andThen_ok,sizeOf,typeInfo,run_program,tke.info,Sem.run_pure,tke.size,hsz]
    rw[if_neg (by omega),if_neg hne]
    simp only[Sem.run_bind,zeroValue,typeInfo,run_program,tke.info,Result.andThen_ok,Sem.run_pure,tke.zero,hfill]
    simp[newRow,newObj,Sem.run,hnew]
   simp only[execOp,ho]
   rw[Sem.run_bind,hrun]
   rfl
  ·have hM:∀b,c.M b→b < w.heap.size:=fun b hb=>hc.lt hb
   have hk:Keep c.M w c.M (w.alloc (.cells ((vs.map fun v=>v.cells.toList).flatten).toArray e)):=Keep.ext hx hM
   subst hnl
   refine .sl sz rows w.heap.size 0 rows.length (fun i j=>((vs[i]?.map fun v=>v.cells.toList).getD []).getD j undef) (fun h=>by have:=hM _ h;omega) (by rw[size_alloc];omega) (Nat.le_refl _)
    (by have:rows.length≤rows.length*sz:=Nat.le_mul_of_pos_right _ hs0;omega) (fun r hr=>?_) (fun r hr=>?_) (fun i j hi hj=>?_) (fun i j row d hi hj=>?_)
   ·obtain⟨j,hj,e⟩:=List.getElem_of_mem hr
    exact(hrow j r vs[j] (by rw[←e];exact List.getElem?_eq_getElem hj) (List.getElem?_eq_getElem (by omega))).2.2
   ·obtain⟨j,hj,e⟩:=List.getElem_of_mem hr
    exact(hrow j r vs[j] (by rw[←e];exact List.getElem?_eq_getElem hj) (List.getElem?_eq_getElem (by omega))).2.1
   ·have hv:vs[i]? =some vs[i]:=List.getElem?_eq_getElem (by omega)
    have hf:=flatten_atG (rows:=vs.map fun v=>v.cells.toList) hfl i j hj
    rw[List.getElem?_map,hv]at hf
    simp only[World.cell?,alloc_at,Nat.zero_add,List.getElem?_toArray,hf,hv,Option.map_some,Option.getD_some,Option.bind_some]
    have hl:j < vs[i].cells.toList.length:=by
     have:=hvsz vs[i] (List.getElem_mem (by omega))
     simpa[this]using hj
    simp[List.getD_eq_getElem?_getD,List.getElem?_eq_getElem hl]
   ·have hi':i < rows.length:=(List.getElem?_eq_some_iff.1 hi).1
    have hv:vs[i]? =some vs[i]:=List.getElem?_eq_getElem (by omega)
    obtain⟨g1,g2,g3⟩:=hrow i row vs[i] hi hv
    have hl:j < vs[i].cells.toList.length:=by rw[←g1.1];exact(List.getElem?_eq_some_iff.1 hj).1
    have:=(g1.2 j d _ hj (List.getElem?_eq_getElem hl)).keep hk
    simpa[hv,List.getD_eq_getElem?_getD,List.getElem?_eq_getElem hl]using this
theorem op_buildSliceO {t e n sz nk:Nat}{parts:Array (Nat × Operand)}{ti te:TI}{rows:List (List PV)}(ho:o.op= .buildSlice t n parts)(ht:tcheck X.P t=some ti)(he':ti.elem=some e)(hte:tcheck X.P e=some te)
 (hsz:te.size=sz) (hs0:0 < sz) (hn0:0 < n) (hsmall:n*sz≤16777216) (hnl:rows.length=n) (hps:parts.size=n) (hk:s.heap nk= .none) (hkm:¬nk < X.m) (hp:∀(j:Nat) (i:Nat) (x:Operand),parts[j]? =some (i,x)→i=j∧rows[j]? =some (cellsP (ev s x))∧okP (ev s x)=true∧(cellsP (ev s x)).length=sz):
 OpOK X ops s o {pv:= .own nk 0,eff:=[(nk,.row e sz 0 rows)],touch:=[nk]}:=
 opok_gen hd (fun kc h=>by simp at h;subst h;simp) fun s' he hkk a w c hc=>by
  obtain⟨i,d,z,tk⟩:=tck ht
  obtain⟨ie,de,ze,tke⟩:=tck hte
  have hde:d= .slice e:=by
   have:=tk.elem
   rw[he']at this
   cases d<;>simp[elemD]at this
   rw[this]
  subst hde
  obtain⟨vs,hvs⟩:∃vs:List Value,vs=parts.toList.map fun p=>a.eval p.2:=⟨_,rfl⟩
  have hvl:vs.length=n:=by rw[hvs];simpa using hps
  have hrow:∀(j:Nat) (ds:List PV) (v:Value),rows[j]? =some ds→vs[j]? =some v→RepPs c w ds v.cells.toList∧(∀e∈ds,e.one=true)∧ds.length=sz:=by
   intro j ds v hj hv
   rw[hvs]at hv
   simp only[List.getElem?_map,Array.getElem?_toList,Option.map_eq_some_iff]at hv
   obtain⟨⟨i,y⟩,hy,rfl⟩:=hv
   obtain⟨-,g1,g3,g4⟩:=hp j i y hy
   rw[hj]at g1
   cases g1
   have hmem:y∈o.op.operands:=by
    rw[ho]
    simp only[Op.operands,List.mem_toArray,List.mem_map]
    exact⟨(i,y),by simpa using Array.mem_of_getElem? hy,rfl⟩
   have hrep:=ev_ok hc y
   rw[he y hmem]at hrep
   obtain⟨r1,r2⟩:=cells_rep hrep g3
   exact⟨r1,r2,g4⟩
  have hvsz:∀v∈vs,v.cells.size=sz:=by
   intro v hv
   obtain⟨j,hj,e⟩:=List.getElem_of_mem hv
   have hjr:j < rows.length:=by omega
   have:=(hrow j rows[j] v (List.getElem?_eq_getElem hjr) (by rw[←e];exact List.getElem?_eq_getElem hj))
   have h2:=this.1.1
   simp at h2
   omega
  have hparts:(parts.map fun(i,x)=>(i,a.eval x)).toList=((vs.zipIdx 0).map fun(v,j)=>(j,v)):=by
   apply List.ext_getElem?
   intro j
   simp only[Array.toList_map,List.getElem?_map,List.getElem?_zipIdx,hvs,Array.getElem?_toList]
   cases hj:parts[j]? with
   |none=>rfl
   |some ix=>
    obtain⟨i,x⟩:=ix
    obtain⟨rfl,-⟩:=hp j i x hj
    simp
  have hzc:ze.cells.size=sz:=by rw[←hsz,←tke.zsize,←tke.zcells];simp
  have hfill:Instr.fill (fun i=>some (i*sz,sz)) ((Array.range (n*sz)).map (ze.cells[· % ze.cells.size]!)) (parts.map fun(i,x)=>(i,a.eval x)).toList=some ((vs.map fun v=>v.cells.toList).flatten).toArray:=by
   have:=fill_rows (size:=sz) (fun i=>some (i*sz,sz)) (fun _=>rfl) vs 0 [] ((Array.range (n*sz)).map (ze.cells[· % ze.cells.size]!)).toList hvsz (by simp) (by simp[hvl])
   rw[hparts]
   rw[List.nil_append,List.nil_append,Array.toArray_toList]at this
   exact this
  have hfl:∀r∈vs.map fun v=>v.cells.toList,r.length=sz:=by
   intro r hr
   obtain⟨v,hv,rfl⟩:=List.mem_map.1 hr
   simpa using hvsz v hv
  have hx:=alloc_ext w (.cells ((vs.map fun v=>v.cells.toList).flatten).toArray e)
  have hk':s'.heap nk= .none:=by rw[hkk nk (by simp)];exact hk
  have hflen:(vs.map fun v=>v.cells.toList).flatten.length=n*sz:=by rw[flatten_len hfl];simp[hvl]
  have hrep:RepPs c w rows.flatten (vs.map fun v=>v.cells.toList).flatten:=by
   refine⟨?_,fun j d x hj hx=>?_⟩
   ·rw[flatten_len (fun r hr=>?_),hflen,hnl]
    obtain⟨j,hj,e⟩:=List.getElem_of_mem hr
    exact(hrow j r vs[j] (by rw[←e];exact List.getElem?_eq_getElem hj) (List.getElem?_eq_getElem (by omega))).2.2
   ·have hrl:∀r∈rows,r.length=sz:=fun r hr=>by
     obtain⟨j,hj,e⟩:=List.getElem_of_mem hr
     exact(hrow j r vs[j] (by rw[←e];exact List.getElem?_eq_getElem hj) (List.getElem?_eq_getElem (by omega))).2.2
    have hjlt:j < n*sz:=by rw[←hflen];exact(List.getElem?_eq_some_iff.1 hx).1
    have q1:j / sz < n:=Nat.div_lt_of_lt_mul (by rw[Nat.mul_comm];exact hjlt)
    have q2:j % sz < sz:=Nat.mod_lt _ hs0
    have q3:j / sz*sz+j % sz=j:=by rw[Nat.mul_comm];exact Nat.div_add_mod j sz
    rw[←q3,flatten_atG hrl _ _ q2]at hj
    rw[←q3,flatten_atG hfl _ _ q2,List.getElem?_map]at hx
    have h1:rows[j / sz]? =some rows[j / sz]:=List.getElem?_eq_getElem (by omega)
    have h2:vs[j / sz]? =some vs[j / sz]:=List.getElem?_eq_getElem (by omega)
    rw[h1]at hj
    rw[h2]at hx
    exact(hrow _ _ _ h1 h2).1.2 _ d x hj hx
  have hown:OwnV (w.alloc (.cells ((vs.map fun v=>v.cells.toList).flatten).toArray e)) e sz (.slice (some ⟨w.heap.size,0,none⟩) n n) rows.length ((vs.map fun v=>v.cells.toList).flatten):=by
   rw[hnl]
   refine .row _ n n _ _ hn0 (alloc_at w _) (Nat.le_refl _) (by have:n≤n*sz:=Nat.le_mul_of_pos_right _ hs0;unfold maxLen;omega) (by simp only[List.size_toArray];exact hflen) hflen ?_
   rw[List.toList_toArray,List.take_of_length_le (by omega)]
  obtain⟨c',q1,q2⟩:=hc.new_row (w':=w.alloc (.cells ((vs.map fun v=>v.cells.toList).flatten).toArray e)) hk' hkm e sz rows _ _ hx hown (fun b hb=>by rw[ownB_pos hn0]at hb;cases hb;exact Nat.le_refl _) hrep (fun r hr=>by
   obtain⟨j,hj,e⟩:=List.getElem_of_mem hr
   exact(hrow j r vs[j] (by rw[←e];exact List.getElem?_eq_getElem hj) (List.getElem?_eq_getElem (by omega))).2.2) (fun r hr=>by
   obtain⟨j,hj,e⟩:=List.getElem_of_mem hr
   exact(hrow j r vs[j] (by rw[←e];exact List.getElem?_eq_getElem hj) (List.getElem?_eq_getElem (by omega))).2.1)
  refine⟨.value (.slice (some ⟨w.heap.size,0,none⟩) n n),_,w.alloc (.cells ((vs.map fun v=>v.cells.toList).flatten).toArray e),?_,.inl rfl,c',q1,q2⟩
  have hnew:∀o:Obj,({w with heap:=w.heap.push o}:World)=w.alloc o:=fun o=>(World.alloc_eq w o)
  have hrun:(Instr.buildSlice t n (parts.map fun(i,x)=>(i,a.eval x))).run X.P w= .ok (.slice (some ⟨w.heap.size,0,none⟩) n n) (w.alloc (.cells ((vs.map fun v=>v.cells.toList).flatten).toArray e)):=by
   have hne:¬(n*sz=0):=Nat.ne_of_gt (Nat.mul_pos hn0 hs0)
   unfold Instr.buildSlice
   simp only[Sem.run_bind,run_underlying tk.und,Result.andThen_ok,sizeOf,typeInfo,run_program,tke.info,Sem.run_pure,tke.size,hsz]
   rw[if_neg (by omega),if_neg hne]
   simp only[Sem.run_bind,zeroValue,typeInfo,run_program,tke.info,Result.andThen_ok,Sem.run_pure,tke.zero,hfill]
   simp[newRow,newObj,Sem.run,hnew]
  simp only[execOp,ho]
  rw[Sem.run_bind,hrun]
  rfl
theorem op_buildSlice0 {t e nk:Nat}{ti te:TI}(ho:o.op= .buildSlice t 0 #[])(ht:tcheck X.P t=some ti)(he':ti.elem=some e)(hte:tcheck X.P e=some te)(hk:s.heap nk= .none)(hkm:¬nk < X.m):
 OpOK X ops s o {pv:= .own nk 0,eff:=[(nk,.row e te.size 0 [])],touch:=[nk]}:=
 opok_gen hd (fun kc h=>by simp at h;subst h;simp) fun s' he hkk a w c hc=>by
  obtain⟨i,d,z,tk⟩:=tck ht
  obtain⟨ie,de,ze,tke⟩:=tck hte
  have hde:d= .slice e:=by
   have:=tk.elem
   rw[he']at this
   cases d<;>simp[elemD]at this
   rw[this]
  subst hde
  have hk':s'.heap nk= .none:=by rw[hkk nk (by simp)];exact hk
  obtain⟨c',q1,q2⟩:=hc.new_row (w':=w.alloc (.cells #[] e)) hk' hkm e te.size [] _ [] (alloc_ext w _) (.zero ⟨w.heap.size,0,none⟩) (fun b hb=>by cases hb) ⟨rfl,fun j d x h=>by simp at h⟩ (by simp) (by simp)
  refine⟨_,_,_,?_,.inl rfl,c',q1,q2⟩
  have hnew:∀o:Obj,({w with heap:=w.heap.push o}:World)=w.alloc o:=fun o=>(World.alloc_eq w o)
  have hrun:(Instr.buildSlice t 0 #[]).run X.P w= .ok (.slice (some ⟨w.heap.size,0,none⟩) 0 0) (w.alloc (.cells #[] e)):=by
   simp[Instr.buildSlice,run_underlying tk.und,sizeOf,typeInfo,tke.info,Instr.fill,newRow,newObj,Sem.run,hnew]
   rw[show Array.map (fun _=>(default:Value)) (Array.range 0)=#[] from Array.eq_empty_of_size_eq_zero (by simp)]
  simp only[execOp,ho]
  rw[Sem.run_bind]
  simp only[Array.map_empty,hrun]
  rfl
theorem op_makeSlice {t e nk:Nat}{l x:Operand}{ti te:TI}{zv:Value}{k k':IntKind}{n:Int}(ho:o.op= .makeSlice t l x)(ht:tcheck X.P t=some ti)(he':ti.elem=some e)(hte:tcheck X.P e=some te)
 (hz1:te.zero=[zv]) (hn0:0 < n) (hb:(te.bytes:Int)*n≤281474976710656) (hm:n≤9223372036854775807) (hl:ev s l= .d (.v (.int k n))) (hx:ev s x= .d (.v (.int k' n))) (hk:s.heap nk= .none) (hkm:¬nk < X.m):
 OpOK X ops s o {pv:= .own nk 0,eff:=[(nk,.row e 1 0 (List.replicate n.toNat [.d (.v zv)]))],touch:=[nk]}:=
 opok_gen hd (fun kc h=>by simp at h;subst h;simp) fun s' he hkk a w c hc=>by
  obtain⟨i,d,z,tk⟩:=tck ht
  obtain⟨ie,de,ze,tke⟩:=tck hte
  have hde:d= .slice e:=by
   have:=tk.elem
   rw[he']at this
   cases d<;>simp[elemD]at this
   rw[this]
  subst hde
  have e1:=ev_ok hc l
  rw[he l (by simp[ho,Op.operands]),hl]at e1
  have e2:=ev_ok hc x
  rw[he x (by simp[ho,Op.operands]),hx]at e2
  have e3:a.eval l= .int k n:=by generalize a.eval l=u at e1;cases repD_inv e1;rfl
  have e4:a.eval x= .int k' n:=by generalize a.eval x=u at e2;cases repD_inv e2;rfl
  have hzc:ze.cells=#[zv]:=by apply Array.ext';rw[tke.zcells,hz1]
  have hsz:ie.size=1:=by have:=tke.zsize;rw[hz1]at this;rw[tke.size];simpa using this.symm
  have hmade:Go.madeCells ze.cells (n.toNat*ie.size)=(List.replicate n.toNat zv).toArray:=by
   rw[hzc,hsz,Nat.mul_one]
   apply Array.ext'
   simp only[Go.madeCells,Array.toList_map,Array.toList_range]
   apply List.ext_getElem
   ·simp
   ·intro j h1 h2
    simp[Nat.mod_one]
  have hk':s'.heap nk= .none:=by rw[hkk nk (by simp)];exact hk
  have hrl:∀r∈List.replicate n.toNat [PV.d (.v zv)],r=[PV.d (.v zv)]:=fun r hr=>List.eq_of_mem_replicate hr
  have hflat:(List.replicate n.toNat [PV.d (.v zv)]).flatten=List.replicate n.toNat (PV.d (.v zv)):=by
   induction n.toNat with
   |zero=>rfl
   |succ m ih=>rw[List.replicate_succ,List.flatten_cons,ih];rfl
  have hz1':zv.oneCell'=true:=tke.one zv (by rw[hz1];simp)
  obtain⟨c',q1,q2⟩:=hc.new_row (w':=w.alloc (.cells (List.replicate n.toNat zv).toArray e)) hk' hkm e 1 (List.replicate n.toNat [PV.d (.v zv)]) (.slice (some ⟨w.heap.size,0,none⟩) n.toNat n.toNat) (List.replicate n.toNat zv) (alloc_ext w _) (by
   rw[List.length_replicate]
   refine .row _ n.toNat n.toNat _ _ (by omega) (alloc_at w _) (Nat.le_refl _) (by unfold maxLen;omega) (by simp) (by simp) ?_
   rw[List.toList_toArray,List.take_of_length_le (by simp)]) (fun b hb=>by rw[ownB_pos (by omega)]at hb;cases hb;exact Nat.le_refl _) (by
   rw[hflat]
   refine⟨by simp,fun j d u hj hu=>?_⟩
   rw[List.getElem?_replicate]at hj hu
   split at hj
   ·cases hj
    rename_i hlt
    rw[if_pos hlt]at hu
    cases hu
    exact .d _ _ (.v _)
   ·cases hj) (fun r hr=>by rw[hrl r hr];rfl) (fun r hr d hd=>by rw[hrl r hr]at hd;rw[List.mem_singleton.1 hd];exact hz1')
  refine⟨_,_,_,?_,.inl rfl,c',q1,q2⟩
  have hrun:=run_make (P:=X.P) w t e ie ze tk.und tke.info tke.zero k k' n n (by omega) (Int.le_refl _) (by rw[tke.bytes];exact hb) hm
  rw[hmade]at hrun
  simp only[execOp,ho,e3,e4]
  rw[Sem.run_bind,hrun]
  rfl
theorem op_convert {src dst:Nat}{x:Operand}{k k':IntKind}{n:Int}{ts td:TI}(ho:o.op= .convert src dst x)(hs:tcheck X.P src=some ts)(ht:tcheck X.P dst=some td)(hi:td.int=some k)(hx:ev s x= .d (.v (.int k' n))):
 OpOK X ops s o {pv:= .d (.v (.int k (k.wrap n)))}:=
 opok_read hd fun s' he _ a w c hc=>by
  have h1:=ev_v' hc ((he x (by simp[ho,Op.operands])).trans hx)
  obtain⟨i,d,z,tk⟩:=tck hs
  obtain⟨i2,d2,z2,tk2⟩:=tck ht
  have hd2:d2= .int k:=by
   have:=tk2.int
   rw[hi]at this
   cases d2<;>simp[intD]at this
   rw[this]
  subst hd2
  refine⟨.int k (k.wrap n),?_,.d _ _ (.v _)⟩
  have hrun:(convert src dst (.int k' n)).run X.P w= .ok (.int k (k.wrap n)) w:=by
   simp[convert,run_underlying tk.und,run_underlying tk2.und,Conv.intToInt]
  simp only[execOp,ho,h1]
  rw[Sem.run_bind,hrun]
  rfl
theorem op_min {x y:Operand}{tys:Array Nat}{k:IntKind}{m n:Int}(ho:o.op= .call {callee:= .builtin .min,args:=#[x,y],argTypes:=tys})(hx:ev s x= .d (.v (.int k m)))(hy:ev s y= .d (.v (.int k n))):
 OpOK X ops s o {pv:= .d (.v (.int k (if n < m then n else m)))}:=
 opok_read hd fun s' he _ a w c hc=>by
  have h1:=ev_v' hc ((he x (by simp[ho,Op.operands,Call.operands])).trans hx)
  have h2:=ev_v' hc ((he y (by simp[ho,Op.operands,Call.operands])).trans hy)
  exact⟨.int k (if n < m then n else m),by simp[execOp,ho,resolve,h1,h2,invoke,builtin,Builtin.min_,Builtin.min2],.d _ _ (.v _)⟩
theorem op_max {x y:Operand}{tys:Array Nat}{k:IntKind}{m n:Int}(ho:o.op= .call {callee:= .builtin .max,args:=#[x,y],argTypes:=tys})(hx:ev s x= .d (.v (.int k m)))(hy:ev s y= .d (.v (.int k n))):
 OpOK X ops s o {pv:= .d (.v (.int k (if m < n then n else m)))}:=
 opok_read hd fun s' he _ a w c hc=>by
  have h1:=ev_v' hc ((he x (by simp[ho,Op.operands,Call.operands])).trans hx)
  have h2:=ev_v' hc ((he y (by simp[ho,Op.operands,Call.operands])).trans hy)
  exact⟨.int k (if m < n then n else m),by simp[execOp,ho,resolve,h1,h2,invoke,builtin,Builtin.max_,Builtin.max2],.d _ _ (.v _)⟩
end
theorem effH_gone (T:List Nat)(h:Nat→Chunk)(k:Nat):effH (T.map fun k=>(k,.gone)) h k=if k∈T then .gone else h k:=by
 induction T with
 |nil=>simp[effH]
 |cons a T ih=>
  simp only[List.map_cons,effH]
  by_cases e:k=a
  ·simp[e]
  ·rw[if_neg e,ih]
   simp[e]
theorem RealC.freeze {X:Cfg}{s:FS}{a:Act}{w:World}{c:Cx}(h:RealC X s a w c)(T:List Nat):
 RealC X {s with heap:=effH (T.map fun k=>(k,.gone)) s.heap} a w {c with M:=lessM c s.heap T}:=by
 have hat:=effH_gone T s.heap
 have hk:=less_keep c s.heap T w
 have hblk:∀k ch,Cx.block {c with M:=lessM c s.heap T} k ch=c.block k ch:=fun k ch=>by cases ch<;>rfl
 have hle:c.le {c with M:=lessM c s.heap T}:=⟨fun _ _ h=>h,fun _ _ _ h=>h⟩
 refine⟨h.size,h.defers,h.ext,h.inv,h.fresh,fun b=>?_,fun k b hb=>?_,fun k k' b hb hb'=>?_,fun t=>(h.env t).keep hle hk,fun k=>?_,h.lent⟩
 ·constructor
  ·rintro⟨hm,hT⟩
   rcases(h.mu b).1 hm with h0|⟨k,hkb⟩
   ·exact .inl h0
   ·refine .inr ⟨k,?_⟩
    have hnT:k∉T:=fun hin=>hT k hin hkb
    simp only[hat,if_neg hnT,hblk]
    exact hkb
  ·rintro (h0|⟨k,hkb⟩)
   ·refine⟨(h.mu b).2 (.inl h0),fun k _ e=>?_⟩
    rcases(h.new k b e).1 with h1|h1
    ·exact(h.fresh b h0).2 h1
    ·have:=(h.fresh b h0).1
     omega
   ·simp only[hat,hblk]at hkb
    split at hkb
    ·simp[Cx.block]at hkb
    ·rename_i hnT
     refine⟨(h.mu b).2 (.inr ⟨k,hkb⟩),fun k' hk' e=>?_⟩
     have:=h.apart k k' b hkb e
     subst this
     exact hnT hk'
 ·simp only[hat,hblk]at hb
  split at hb
  ·simp[Cx.block]at hb
  ·exact h.new k b hb
 ·simp only[hat,hblk]at hb hb'
  split at hb
  ·simp[Cx.block]at hb
  ·split at hb'
   ·simp[Cx.block]at hb'
   ·exact h.apart k k' b hb hb'
 ·simp only[hat]
  split
  ·exact .gone
  ·exact(h.chunk k).keep hle hk (fun _ _=>rfl) rfl rfl
abbrev Env:=List (Nat × PV)
def look:Env→Nat→PV
 |[],_=> .any
 |(a,p)::l,t=>if t=a then p else look l t
def hatL:List Chunk→Nat→Chunk
 |[],_=> .none
 |c::_,0=>c
 |_::l,k+1=>hatL l k
def mkF (e:Env)(h:List Chunk):FS:=⟨look e,hatL h⟩
def evL (e:Env):Operand→PV
 | .tmp t=>look e t
 | .const v=> .d (.v v)
 | .func f=> .d (.clo f [])
 | .global _=> .any
theorem ev_mk (e:Env)(h:List Chunk)(x:Operand):ev (mkF e h) x=evL e x:=by cases x<;>rfl
mutual
def belowP (n:Nat):PV→Bool
 | .ptr k _=>decide (k < n)
 | .own k _=>decide (k < n)
 | .rp k _ _ _ _=>decide (k < n)
 | .osl k _ _ _ _=>decide (k < n)
 | .mref k=>decide (k < n)
 | .agg l=>belowL n l
 | .tup l=>belowL n l
 | .clo _ caps=>belowL n caps
 | .d _=>true
 | .any=>true
def belowL (n:Nat):List PV→Bool
 |[]=>true
 |p::l=>belowP n p&&belowL n l
end
theorem belowL_mem {n:Nat}:∀{l:List PV},belowL n l=true→∀p∈l,belowP n p=true
 |q::l,h,p,hp=>by
  simp only[belowL,Bool.and_eq_true]at h
  rcases List.mem_cons.1 hp with rfl|hp
  ·exact h.1
  ·exact belowL_mem h.2 p hp
def belowR (n:Nat):List (List PV)→Bool
 |[]=>true
 |r::l=>belowL n r&&belowR n l
theorem belowL_d (n:Nat):∀(l:List D),belowL n (l.map .d)=true
 |[]=>rfl
 |x::l=>by simp only[List.map_cons,belowL,belowP,belowL_d n l,Bool.and_self]
theorem belowR_d (n:Nat):∀(l:List (List D)),belowR n (dRows l)=true
 |[]=>rfl
 |x::l=>by
  have:=belowR_d n l
  simp only[dRows]at this
  simp only[dRows,List.map_cons,belowR,belowL_d,this,Bool.and_self]
def belowC (n:Nat):Chunk→Bool
 | .box _ cells=>belowL n cells
 | .row _ _ _ rows=>belowR n rows
 |_=>true
def belowH (n:Nat):List Chunk→Bool
 |[]=>true
 |c::l=>belowC n c&&belowH n l
def belowE (n:Nat):Env→Bool
 |[]=>true
 |(_,p)::l=>belowP n p&&belowE n l
def subE (e:Env):Env→Prop
 |[]=>True
 |(t,p)::l=>look e t=p∧subE e l
theorem look_below {n:Nat}:∀{e:Env},belowE n e=true→∀t,belowP n (look e t)=true
 |[],_,_=>rfl
 |(t',p)::l,h,t=>by
  simp only[belowE,Bool.and_eq_true]at h
  simp only[look]
  by_cases ht:t=t'
  ·rw[if_pos ht];exact h.1
  ·rw[if_neg ht];exact look_below h.2 t
theorem hat_below {n:Nat}:∀{h:List Chunk},belowH n h=true→∀k,belowC n (hatL h k)=true
 |[],_,_=>rfl
 |c::l,h,k=>by
  simp only[belowH,Bool.and_eq_true]at h
  cases k with
  |zero=>exact h.1
  |succ k=>exact hat_below h.2 k
mutual
def ren (ρ:Nat→Nat):PV→PV
 | .d x=> .d x
 | .any=> .any
 | .ptr k o=> .ptr (ρ k) o
 | .own k g=> .own (ρ k) g
 | .rp k g sz i j=> .rp (ρ k) g sz i j
 | .osl k g sz a n=> .osl (ρ k) g sz a n
 | .clo g caps=> .clo g (renL ρ caps)
 | .agg l=> .agg (renL ρ l)
 | .tup l=> .tup (renL ρ l)
 | .mref k=> .mref (ρ k)
def renL (ρ:Nat→Nat):List PV→List PV
 |[]=>[]
 |p::l=>ren ρ p::renL ρ l
end
def renR (ρ:Nat→Nat):List (List PV)→List (List PV)
 |[]=>[]
 |r::l=>renL ρ r::renR ρ l
def renC (ρ:Nat→Nat):Chunk→Chunk
 | .box T cells=> .box T (renL ρ cells)
 | .row E sz g rows=> .row E sz g (renR ρ rows)
 |c=>c
theorem renL_map (ρ:Nat→Nat):∀(l:List PV),renL ρ l=l.map (ren ρ)
 |[]=>rfl
 |p::l=>by simp only[renL,renL_map ρ l,List.map_cons]
theorem renR_map (ρ:Nat→Nat):∀(l:List (List PV)),renR ρ l=l.map (·.map (ren ρ))
 |[]=>rfl
 |p::l=>by simp only[renR,renR_map ρ l,renL_map,List.map_cons]
theorem renL_d (ρ:Nat→Nat):∀(l:List D),renL ρ (l.map .d)=l.map .d
 |[]=>rfl
 |x::l=>by simp only[List.map_cons,renL,ren,renL_d ρ l]
theorem renR_d (ρ:Nat→Nat):∀(l:List (List D)),renR ρ (dRows l)=dRows l
 |[]=>rfl
 |x::l=>by
  have:=renR_d ρ l
  simp only[dRows]at this
  simp only[dRows,List.map_cons,renR,renL_d,this]
theorem renR_set (ρ:Nat→Nat)(l:List (List PV))(i:Nat)(r:List PV):renR ρ (l.set i r)=(renR ρ l).set i (renL ρ r):=by
 simp only[renR_map,renL_map,List.map_set]
theorem renR_len (ρ:Nat→Nat)(l:List (List PV)):(renR ρ l).length=l.length:=by rw[renR_map,List.length_map]
theorem ren_one (ρ:Nat→Nat)(p:PV):(ren ρ p).one=p.one:=by cases p<;>rfl
theorem renR_flatten (ρ:Nat→Nat)(l:List (List PV)):(renR ρ l).flatten=l.flatten.map (ren ρ):=by
 rw[renR_map,List.map_flatten]
theorem RepP.ren {c c2:Cx}{w:World}{ρ:Nat→Nat}{p:PV}{v:Value}(h:RepP c w p v)(hM:∀d x,RepD c.M w d x→RepD c2.M w d x)(hb:∀k b,c.bl k=some b→c2.bl (ρ k)=some b)(ho:∀k g u,c.ov k g=some u→c2.ov (ρ k) g=some u):RepP c2 w (ren ρ p) v:=by
 induction h with
 |d x v h=>exact .d x v (hM x v h)
 |any v=>exact .any v
 |ptr k off b h=>exact .ptr _ off b (hb _ _ h)
 |own k g v h h1=>exact .own _ g v (ho _ _ _ h) h1
 |rp k g sz i j b n cap h=>exact .rp _ g sz i j b n cap (ho _ _ _ h)
 |osl k g sz a n b o N cap h hn hc h2=>exact .osl _ g sz a n b o N cap (ho _ _ _ h) hn hc h2
 |clo g caps vs hl hrep ih=>
  refine .clo g _ vs (by rw[renL_map,List.length_map];exact hl) fun j d x hj hx=>?_
  rw[renL_map,List.getElem?_map,Option.map_eq_some_iff]at hj
  obtain⟨y,hy,rfl⟩:=hj
  exact ih j y x hy hx
 |agg caps vs hl h1 hrep ih=>
  refine .agg _ vs (by rw[renL_map,List.length_map];exact hl) (fun d hd=>?_) fun j d x hj hx=>?_
  ·rw[renL_map]at hd
   obtain⟨y,hy,rfl⟩:=List.mem_map.1 hd
   rw[ren_one];exact h1 y hy
  ·rw[renL_map,List.getElem?_map,Option.map_eq_some_iff]at hj
   obtain⟨y,hy,rfl⟩:=hj
   exact ih j y x hy hx
 |tup caps vs hl hrep ih=>
  refine .tup _ vs (by rw[renL_map,List.length_map];exact hl) fun j d x hj hx=>?_
  rw[renL_map,List.getElem?_map,Option.map_eq_some_iff]at hj
  obtain⟨y,hy,rfl⟩:=hj
  exact ih j y x hy hx
 |mref k b h=>exact .mref _ b (hb _ _ h)
theorem RepPs.ren {c c2:Cx}{w:World}{ρ:Nat→Nat}{ps:List PV}{vs:List Value}(h:RepPs c w ps vs)(hM:∀d x,RepD c.M w d x→RepD c2.M w d x)(hb:∀k b,c.bl k=some b→c2.bl (ρ k)=some b)(ho:∀k g u,c.ov k g=some u→c2.ov (ρ k) g=some u):RepPs c2 w (ps.map (ren ρ)) vs:=by
 refine⟨by rw[List.length_map];exact h.1,fun j d x hj hx=>?_⟩
 rw[List.getElem?_map,Option.map_eq_some_iff]at hj
 obtain⟨y,hy,rfl⟩:=hj
 exact(h.2 j y x hy hx).ren hM hb ho
mutual
theorem unren {c c1:Cx}{w:World}{ρ:Nat→Nat}{m:Nat}(hM:∀d x,RepD c.M w d x→RepD c1.M w d x)(hb:∀j,j < m→∀b,c.bl (ρ j)=some b→c1.bl j=some b)(ho:∀j,j < m→∀g u,c.ov (ρ j) g=some u→c1.ov j g=some u):∀(p:PV) (v:Value),belowP m p=true→RepP c w (ren ρ p) v→RepP c1 w p v
 | .d x,v,_,h=>by
  simp only[Go.Proofs.YtmicljipaiohkaaGreat.ren]at h
  cases h with|d _ _ h=>exact .d x v (hM x v h)
 | .any,v,_,_=> .any v
 | .ptr k off,v,hk,h=>by
  simp only[Go.Proofs.YtmicljipaiohkaaGreat.ren]at h
  simp only[belowP,decide_eq_true_eq]at hk
  cases h with|ptr _ _ b h=>exact .ptr k off b (hb k hk b h)
 | .own k g,v,hk,h=>by
  simp only[Go.Proofs.YtmicljipaiohkaaGreat.ren]at h
  simp only[belowP,decide_eq_true_eq]at hk
  cases h with|own _ _ _ h h1=>exact .own k g v (ho k hk g v h) h1
 | .rp k g sz i j,v,hk,h=>by
  simp only[Go.Proofs.YtmicljipaiohkaaGreat.ren]at h
  simp only[belowP,decide_eq_true_eq]at hk
  cases h with|rp _ _ _ _ _ b n cap h=>exact .rp k g sz i j b n cap (ho k hk g _ h)
 | .osl k g sz a n,v,hk,h=>by
  simp only[Go.Proofs.YtmicljipaiohkaaGreat.ren]at h
  simp only[belowP,decide_eq_true_eq]at hk
  cases h with|osl _ _ _ _ _ b o N cap h hn hc h2=>exact .osl k g sz a n b o N cap (ho k hk g _ h) hn hc h2
 | .mref k,v,hk,h=>by
  simp only[Go.Proofs.YtmicljipaiohkaaGreat.ren]at h
  simp only[belowP,decide_eq_true_eq]at hk
  cases h with|mref _ b h=>exact .mref k b (hb k hk b h)
 | .clo g caps,v,hk,h=>by
  simp only[Go.Proofs.YtmicljipaiohkaaGreat.ren]at h
  simp only[belowP]at hk
  cases h with
  |clo _ _ vs hl hrep=>
   rw[renL_map,List.length_map]at hl
   exact .clo g caps vs hl (unrenL hM hb ho caps vs hk hrep)
 | .agg caps,v,hk,h=>by
  simp only[Go.Proofs.YtmicljipaiohkaaGreat.ren]at h
  simp only[belowP]at hk
  cases h with
  |agg _ vs hl h1 hrep=>
   rw[renL_map,List.length_map]at hl
   refine .agg caps vs hl (fun d hd=>?_) (unrenL hM hb ho caps vs hk hrep)
   rw[←ren_one ρ]
   exact h1 _ (by rw[renL_map];exact List.mem_map_of_mem hd)
 | .tup caps,v,hk,h=>by
  simp only[Go.Proofs.YtmicljipaiohkaaGreat.ren]at h
  simp only[belowP]at hk
  cases h with
  |tup _ vs hl hrep=>
   rw[renL_map,List.length_map]at hl
   exact .tup caps vs hl (unrenL hM hb ho caps vs hk hrep)
theorem unrenL {c c1:Cx}{w:World}{ρ:Nat→Nat}{m:Nat}(hM:∀d x,RepD c.M w d x→RepD c1.M w d x)(hb:∀j,j < m→∀b,c.bl (ρ j)=some b→c1.bl j=some b)(ho:∀j,j < m→∀g u,c.ov (ρ j) g=some u→c1.ov j g=some u):∀(l:List PV) (vs:List Value),belowL m l=true→(∀(j:Nat) (d:PV) (x:Value),(renL ρ l)[j]? =some d→vs[j]? =some x→RepP c w d x)→∀(j:Nat) (d:PV) (x:Value),l[j]? =some d→vs[j]? =some x→RepP c1 w d x
 |[],_,_,_,j,d,x,hj,_=>by simp at hj
 |p::l,[],_,_,j,d,x,_,hx=>by simp at hx
 |p::l,v::vs,hk,h,j,d,x,hj,hx=>by
  simp only[belowL,Bool.and_eq_true]at hk
  cases j with
  |zero=>
   have e1:p=d:=by simpa using hj
   have e2:v=x:=by simpa using hx
   rw[←e1,←e2]
   exact unren hM hb ho p v hk.1 (h 0 _ v rfl rfl)
  |succ j=>exact unrenL hM hb ho l vs hk.2 (fun j d x h1 h2=>h (j+1) d x h1 (by simpa using h2)) j d x (by simpa using hj) (by simpa using hx)
end
theorem belowR_flat {m:Nat}{rows:List (List PV)}(h:belowR m rows=true):belowL m rows.flatten=true:=by
 induction rows with
 |nil=>rfl
 |cons r rows ih=>
  simp only[belowR,Bool.and_eq_true]at h
  have app:∀(a b:List PV),belowL m a=true→belowL m b=true→belowL m (a++b)=true:=by
   intro a b ha hb
   induction a with
   |nil=>exact hb
   |cons x a iha=>
    simp only[belowL,Bool.and_eq_true]at ha
    simp only[List.cons_append,belowL,ha.1,iha ha.2,Bool.and_self]
  rw[List.flatten_cons]
  exact app _ _ h.1 (ih h.2)
def act0:Act:={tmps:=#[],defers:=[]}
structure MSpec (P:Program)(f:Nat)(args:List PV)(h0:List Chunk)(r:PV)(h1:List Chunk):Prop where
 fn:FnOK P f
 le:h0.length≤h1.length
 ba:belowL h0.length args=true
 bh:belowH h0.length h0=true
 run:∀X:Cfg,X.P=P→X.n=0→X.m=h0.length→∀(w:World) (c:Cx) (vs:List Value),RealC X (mkF [] h0) act0 w c→RepPs c w args vs→
  Calls P f vs.toArray w fun e w'=>∃v c',e= .returned v∧RepP c' w' r v∧RealC X (mkF [] h1) act0 w' c'
def rid:List Nat→Nat→Nat→Nat
 |[],nk,j=>nk+j
 |k::_,_,0=>k
 |_::l,nk,j+1=>rid l nk j
theorem rid_new:∀(ls:List Nat) (nk j:Nat),rid ls nk (ls.length+j)=nk+j
 |[],nk,j=>by simp[rid]
 |k::l,nk,j=>by
  rw[List.length_cons,show l.length+1+j=(l.length+j)+1 by omega]
  exact rid_new l nk j
theorem rid_old:∀{ls:List Nat}{nk j:Nat},j < ls.length→ls[j]? =some (rid ls nk j)
 |k::l,nk,0,_=>rfl
 |k::l,nk,j+1,h=>by simpa[rid]using rid_old (ls:=l) (nk:=nk) (j:=j) (by simpa using h)
theorem rid_inj {ls:List Nat}{nk:Nat}(hn:ls.Nodup)(hlt:∀k∈ls,k < nk){i j:Nat}(h:rid ls nk i=rid ls nk j):i=j:=by
 have old:∀i,i < ls.length→rid ls nk i < nk:=fun i hi=>hlt _ (List.mem_of_getElem? (rid_old hi))
 rcases Nat.lt_or_ge i ls.length with hi|hi<;>rcases Nat.lt_or_ge j ls.length with hj|hj
 ·have h1:=rid_old (nk:=nk) hi
  have h2:=rid_old (nk:=nk) hj
  rw[h]at h1
  rw[List.getElem?_eq_getElem hi]at h1
  rw[List.getElem?_eq_getElem hj]at h2
  have h3:ls[i]=ls[j]:=Option.some.inj (h1.trans h2.symm)
  exact(List.getElem_inj (h₀:=hi) (h₁:=hj) hn).1 h3
 ·have:=old i hi
  have h2:=rid_new ls nk (j - ls.length)
  rw[show ls.length+(j - ls.length)=j by omega]at h2
  omega
 ·have:=old j hj
  have h2:=rid_new ls nk (i - ls.length)
  rw[show ls.length+(i - ls.length)=i by omega]at h2
  omega
 ·have h1:=rid_new ls nk (i - ls.length)
  have h2:=rid_new ls nk (j - ls.length)
  rw[show ls.length+(i - ls.length)=i by omega]at h1
  rw[show ls.length+(j - ls.length)=j by omega]at h2
  omega
def effM (ρ:Nat→Nat):Nat→List Chunk→List (Nat × Chunk)
 |_,[]=>[]
 |j,c::l=>(ρ j,renC ρ c)::effM ρ (j+1) l
def lentOK (h:Nat→Chunk)(ρ:Nat→Nat):Nat→List Chunk→Prop
 |_,[]=>True
 |j,c::l=>h (ρ j)=renC ρ c∧lentOK h ρ (j+1) l
theorem lentOK_at {h:Nat→Chunk}{ρ:Nat→Nat}:∀{l:List Chunk}{i:Nat},lentOK h ρ i l→∀{j:Nat},j < l.length→h (ρ (i+j))=renC ρ (hatL l j)
 |c::l,i,⟨h1,h2⟩,0,_=>h1
 |c::l,i,⟨h1,h2⟩,j+1,hj=>by
  have:=lentOK_at h2 (j:=j) (by simpa using hj)
  rw[show i+1+j=i+(j+1) by omega]at this
  exact this
theorem effM_keys (ρ:Nat→Nat):∀(l:List Chunk) (i:Nat),(effM ρ i l).map (·.1)=(List.range l.length).map fun j=>ρ (i+j)
 |[],i=>rfl
 |c::l,i=>by
  rw[effM,List.map_cons,effM_keys ρ l (i+1),List.length_cons,List.range_succ_eq_map,List.map_cons,List.map_map]
  congr 1
  refine List.map_congr_left fun j _=>?_
  simp only[Function.comp]
  rw[show i+1+j=i+(j+1) by omega]
theorem effM_at {ρ:Nat→Nat}(hinj:∀i j,ρ i=ρ j→i=j){h:Nat→Chunk}:∀(l:List Chunk) (i j:Nat),j < l.length→effH (effM ρ i l) h (ρ (i+j))=renC ρ (hatL l j)
 |c::l,i,0,_=>by simp[effM,effH,hatL]
 |c::l,i,j+1,hj=>by
  simp only[effM,effH]
  rw[if_neg (fun e=>by have:=hinj _ _ e;omega)]
  have:=effM_at hinj (h:=h) l (i+1) j (by simpa using hj)
  rw[show i+1+j=i+(j+1) by omega]at this
  exact this
theorem effM_off {ρ:Nat→Nat}{h:Nat→Chunk}{k:Nat}:∀(l:List Chunk) (i:Nat),(∀j,j < l.length→ρ (i+j)≠k)→effH (effM ρ i l) h k=h k
 |[],_,_=>rfl
 |c::l,i,hk=>by
  simp only[effM,effH]
  rw[if_neg (fun e=>hk 0 (by simp) (by simpa using e.symm))]
  exact effM_off l (i+1) fun j hj e=>hk (j+1) (by simpa using hj) (by rw[←e];congr 1;omega)
theorem unrenC {c c1:Cx}{w:World}{ρ:Nat→Nat}{m j:Nat}{ch:Chunk}(hM:∀d x,RepD c.M w d x→RepD c1.M w d x)(hMb:∀b,c1.M b→c.M b)(hb:∀j,j < m→∀b,c.bl (ρ j)=some b→c1.bl j=some b)(ho:∀j,j < m→∀g u,c.ov (ρ j) g=some u→c1.ov j g=some u)
 (hbn:c1.bl j=c.bl (ρ j)) (hon:c1.ov j=c.ov (ρ j)) (hbel:belowC m ch=true) (h:ChunkOK c w (ρ j) (renC ρ ch)):ChunkOK c1 w j ch:=by
 cases ch with
 |none=>cases h with|none h1 h2=>exact .none (hbn.trans h1) (fun g=>by rw[hon];exact h2 g)
 |gone=>exact .gone
 |mp nB sB ents=>cases h with|mp _ _ _ b hb hh hn=>exact .mp nB sB ents b (hbn.trans hb) hh hn
 |it nB sB ents seen=>cases h with|it _ _ _ _ b bm hb hh hM hm=>exact .it nB sB ents seen b bm (hbn.trans hb) hh (fun h=>hM (hMb _ h)) hm
 |box T cells=>
  cases h with
  |box _ _ b vs h1 h2 h3 h4=>
   refine .box T cells b vs (hbn.trans h1) h2 ⟨by rw[←h3.1,renL_map,List.length_map],unrenL hM hb ho cells vs (by simpa[belowC]using hbel) h3.2⟩ (fun d hd=>?_)
   rw[←ren_one ρ]
   exact h4 _ (by rw[renL_map];exact List.mem_map_of_mem hd)
 |row E sz g rows=>
  cases h with
  |row _ _ _ _ v xs h1 h2 h3 h4 h5 h6=>
   rw[renR_len]at h2
   rw[renR_flatten]at h3
   refine .row E sz g rows v xs (by rw[hon];exact h1) h2 ⟨by rw[←h3.1,List.length_map],unrenL (ρ:=ρ) hM hb ho rows.flatten xs (belowR_flat (by simpa[belowC]using hbel)) (fun j d x hj hx=>h3.2 j d x (by rw[←renL_map];exact hj) hx)⟩ (fun r hr=>?_) (fun r hr d hd=>?_) (fun g' hg=>by rw[hon];exact h6 g' hg)
   ·have:=h4 (r.map (ren ρ)) (by rw[renR_map];exact List.mem_map_of_mem (f:=(List.map (ren ρ))) hr)
    simpa using this
   ·have:=h5 (r.map (ren ρ)) (by rw[renR_map];exact List.mem_map_of_mem (f:=(List.map (ren ρ))) hr) (ren ρ d) (List.mem_map_of_mem hd)
    rwa [ren_one]at this
theorem renC_ok {c c2:Cx}{w:World}{ρ:Nat→Nat}{j:Nat}{ch:Chunk}(hM:∀d x,RepD c.M w d x→RepD c2.M w d x)(hMb:∀b,c2.M b→c.M b)(hb:∀k b,c.bl k=some b→c2.bl (ρ k)=some b)(ho:∀k g u,c.ov k g=some u→c2.ov (ρ k) g=some u)
 (hbn:c2.bl (ρ j)=c.bl j) (hon:c2.ov (ρ j)=c.ov j) (h:ChunkOK c w j ch):ChunkOK c2 w (ρ j) (renC ρ ch):=by
 cases h with
 |none h1 h2=>exact .none (hbn.trans h1) (fun g=>by rw[hon];exact h2 g)
 |gone=>exact .gone
 |mp nB sB ents b hb hh hn=>exact .mp nB sB ents b (hbn.trans hb) hh hn
 |it nB sB ents seen b bm hb hh hM hm=>exact .it nB sB ents seen b bm (hbn.trans hb) hh (fun h=>hM (hMb _ h)) hm
 |box T cells b vs h1 h2 h3 h4=>
  refine .box T _ b vs (hbn.trans h1) h2 (by rw[renL_map];exact h3.ren hM hb ho) (fun d hd=>?_)
  rw[renL_map]at hd
  obtain⟨y,hy,rfl⟩:=List.mem_map.1 hd
  rw[ren_one];exact h4 y hy
 |row E sz g rows v xs h1 h2 h3 h4 h5 h6=>
  refine .row E sz g _ v xs (by rw[hon];exact h1) (by rw[renR_len];exact h2) (by rw[renR_flatten];exact h3.ren hM hb ho) (fun r hr=>?_) (fun r hr d hd=>?_) (fun g' hg=>by rw[hon];exact h6 g' hg)
  ·rw[renR_map]at hr
   obtain⟨y,hy,rfl⟩:=List.mem_map.1 hr
   rw[List.length_map];exact h4 y hy
  ·rw[renR_map]at hr
   obtain⟨y,hy,rfl⟩:=List.mem_map.1 hr
   obtain⟨z,hz,rfl⟩:=List.mem_map.1 hd
   rw[ren_one];exact h5 y hy z hz
theorem block_ren {c c1:Cx}{ρ:Nat→Nat}{j:Nat}{ch:Chunk}(hb:c1.bl j=c.bl (ρ j))(ho:c1.ov j=c.ov (ρ j)):c1.block j ch=c.block (ρ j) (renC ρ ch):=by
 cases ch<;>simp[Cx.block,renC,hb,ho]
theorem hat_over:∀(l:List Chunk) (k:Nat),l.length≤k→hatL l k= .none
 |[],_,_=>rfl
 |c::l,0,h=>by simp at h
 |c::l,k+1,h=>by simpa[hatL]using hat_over l k (by simpa using h)
theorem RealC.back {X:Cfg}{s:FS}{a:Act}{w w':World}{c c2:Cx}(hc:RealC X s a w c){h0 h1:List Chunk}{ls:List Nat}{nk:Nat}{X1:Cfg}(hX1:X1.w0=w∧X1.m=h0.length∧
 (∀b,X1.L b↔∃j,j < h0.length∧c.block (rid ls nk j) (s.heap (rid ls nk j))=some b)∧(∀b,X1.M0 b↔c.M b∧¬X1.L b)∧(∀j,j < h0.length→X1.c0.bl j=c.bl (rid ls nk j)∧X1.c0.ov j=c.ov (rid ls nk j)))
 (hle01:h0.length≤h1.length) (hl:ls.length=h0.length) (hnd:ls.Nodup) (hlt:∀k∈ls,k < nk) (hnew:∀i,h0.length+i < h1.length→s.heap (nk+i)= .none) (hnkm:X.m≤nk)
 (h:RealC X1 (mkF [] h1) act0 w' c2) {p:PV}{v:Value} (hp:RepP c2 w' p v):
 ∃c3,RealC X {s with heap:=effH (effM (rid ls nk) 0 h1) s.heap} a w' c3∧RepP c3 w' (ren (rid ls nk) p) v:=by
 obtain⟨hw0,hm1,hL,hM0,hc0⟩:=hX1
 generalize hρ:rid ls nk=ρ at*
 have inj:∀i j,ρ i=ρ j→i=j:=fun i j e=>by rw[←hρ]at e;exact rid_inj hnd hlt e
 have new_id:∀i,ρ (h0.length+i)=nk+i:=fun i=>by rw[←hρ,←hl];exact rid_new ls nk i
 have old_id:∀j,j < h0.length→ρ j < nk:=fun j hj=>by rw[←hρ];exact hlt _ (List.mem_of_getElem? (rid_old (by omega)))
 have new_none:∀j,h0.length≤j→j < h1.length→s.heap (ρ j)= .none:=fun j h2 h3=>by
  have:=new_id (j - h0.length)
  rw[show h0.length+(j - h0.length)=j by omega]at this
  rw[this]
  exact hnew _ (by omega)
 have hlent:=h.lent
 rw[hm1]at hlent
 let c3:Cx:={M:=c2.M,bl:=fun k=>open Classical in if e:∃j,j < h1.length∧ρ j=k then c2.bl e.choose else c.bl k,ov:=fun k=>open Classical in if e:∃j,j < h1.length∧ρ j=k then c2.ov e.choose else c.ov k}
 have in_bl:∀j,j < h1.length→c3.bl (ρ j)=c2.bl j∧c3.ov (ρ j)=c2.ov j:=by
  intro j hj
  have e:∃i,i < h1.length∧ρ i=ρ j:=⟨j,hj,rfl⟩
  have e2:=inj _ _ e.choose_spec.2
  refine⟨?_,?_⟩
  ·show (if e:∃i,i < h1.length∧ρ i=ρ j then c2.bl e.choose else c.bl (ρ j))=_
   rw[dif_pos e,e2]
  ·show (if e:∃i,i < h1.length∧ρ i=ρ j then c2.ov e.choose else c.ov (ρ j))=_
   rw[dif_pos e,e2]
 have off_bl:∀k,(∀j,j < h1.length→ρ j≠k)→c3.bl k=c.bl k∧c3.ov k=c.ov k:=by
  intro k hk
  have e:¬∃j,j < h1.length∧ρ j=k:=fun⟨j,h1,h2⟩=>hk j h1 h2
  refine⟨?_,?_⟩
  ·show (if e:∃i,i < h1.length∧ρ i=k then c2.bl e.choose else c.bl k)=_
   rw[dif_neg e]
  ·show (if e:∃i,i < h1.length∧ρ i=k then c2.ov e.choose else c.ov k)=_
   rw[dif_neg e]
 have far:∀j,h1.length≤j→c2.bl j=none∧∀g,c2.ov j g=none:=by
  intro j hj
  have:=h.chunk j
  rw[show (mkF [] h1).heap j= .none from hat_over h1 j hj]at this
  cases this with|none a b=>exact⟨a,b⟩
 have fwd_b:∀k b,c2.bl k=some b→c3.bl (ρ k)=some b:=by
  intro k b hb
  rcases Nat.lt_or_ge k h1.length with hk|hk
  ·rw[(in_bl k hk).1];exact hb
  ·rw[(far k hk).1]at hb;cases hb
 have fwd_o:∀k g u,c2.ov k g=some u→c3.ov (ρ k) g=some u:=by
  intro k g u hu
  rcases Nat.lt_or_ge k h1.length with hk|hk
  ·rw[(in_bl k hk).2];exact hu
  ·rw[(far k hk).2]at hu;cases hu
 have lent_bl:∀j,j < h0.length→c2.bl j=c.bl (ρ j)∧∀g u,c.ov (ρ j) g=some u→c2.ov j g=some u:=by
  intro j hj
  obtain⟨q1,q2⟩:=hlent j hj
  obtain⟨q3,q4⟩:=hc0 j hj
  exact⟨q1.trans q3,fun g u hu=>q2 g u (by rw[q4];exact hu)⟩
 have hle:c.le c3:=by
  refine⟨fun k b hb=>?_,fun k g u hu=>?_⟩
  ·by_cases e:∃j,j < h1.length∧ρ j=k
   ·obtain⟨j,hj,rfl⟩:=e
    rw[(in_bl j hj).1]
    rcases Nat.lt_or_ge j h0.length with h2|h2
    ·rw[(lent_bl j h2).1];exact hb
    ·have:=hc.chunk (ρ j)
     rw[new_none j h2 hj]at this
     cases this with|none a b2=>rw[a]at hb;cases hb
   ·rw[(off_bl k fun j hj e2=>e ⟨j,hj,e2⟩).1];exact hb
  ·by_cases e:∃j,j < h1.length∧ρ j=k
   ·obtain⟨j,hj,rfl⟩:=e
    rw[(in_bl j hj).2]
    rcases Nat.lt_or_ge j h0.length with h2|h2
    ·exact(lent_bl j h2).2 g u hu
    ·have:=hc.chunk (ρ j)
     rw[new_none j h2 hj]at this
     cases this with|none a b2=>rw[b2]at hu;cases hu
   ·rw[(off_bl k fun j hj e2=>e ⟨j,hj,e2⟩).2];exact hu
 have blk_in:∀j,j < h1.length→c3.block (ρ j) (effH (effM ρ 0 h1) s.heap (ρ j))=c2.block j (hatL h1 j):=by
  intro j hj
  have e:=effM_at inj (h:=s.heap) h1 0 j hj
  rw[Nat.zero_add]at e
  rw[e]
  exact(block_ren (in_bl j hj).1.symm (in_bl j hj).2.symm).symm
 have blk_off:∀k,(∀j,j < h1.length→ρ j≠k)→effH (effM ρ 0 h1) s.heap k=s.heap k∧c3.block k (s.heap k)=c.block k (s.heap k):=by
  intro k hk
  refine⟨effM_off h1 0 fun j hj=>by rw[Nat.zero_add];exact hk j hj,?_⟩
  obtain⟨q1,q2⟩:=off_bl k hk
  cases s.heap k<;>simp[Cx.block,q1,q2]
 have blk_far:∀j b,c2.block j (hatL h1 j)=some b→j < h1.length:=by
  intro j b hb
  rcases Nat.lt_or_ge j h1.length with hj|hj
  ·exact hj
  ·rw[hat_over h1 j hj]at hb;cases hb
 have hext:=h.ext
 rw[hw0]at hext
 have L_M:∀b,X1.L b→c.M b:=fun b hb=>by
  obtain⟨j,hj,e⟩:=(hL b).1 hb
  exact(hc.mu b).2 (.inr ⟨_,e⟩)
 have L_new:∀b,X1.L b→X.L b∨X.w0.heap.size≤b:=fun b hb=>by
  obtain⟨j,hj,e⟩:=(hL b).1 hb
  exact(hc.new _ b e).1
 have hmu2:=h.mu
 have hkp:Keep c.M w c3.M w':=by
  refine⟨hext.size,fun b hb hm=>hext.block b hb (fun e=>hm (L_M b e)),fun b hb hm=>?_⟩
  rcases(hmu2 b).1 hm with h2|⟨k,h2⟩
  ·exact((hM0 b).1 h2).1
  ·rcases(h.new k b h2).1 with h3|h3
   ·exact L_M b h3
   ·rw[hw0]at h3;omega
 have off_L:∀k b,(∀j,j < h1.length→ρ j≠k)→c.block k (s.heap k)=some b→¬X1.L b:=by
  intro k b hk hb hb'
  obtain⟨j,hj,e⟩:=(hL b).1 hb'
  exact hk j (by omega) (hc.apart _ _ b e hb)
 refine⟨c3,⟨hc.size,hc.defers,?_,hc.inv,hc.fresh,fun b=>?_,fun k b hb=>?_,fun k k' b hb hb'=>?_,fun t=>(hc.env t).keep hle hkp,fun k=>?_,fun k hk=>?_⟩,hp.ren (c2:=c3) (fun _ _ h=>h) fwd_b fwd_o⟩
 ·refine⟨hext.os.trans hc.ext.os,hext.tape.trans hc.ext.tape,hext.output.trans hc.ext.output,Nat.le_trans hc.ext.size hext.size,fun b hb hnl=>?_⟩
  refine(hext.block b (Nat.lt_of_lt_of_le hb hc.ext.size) fun e=>?_).trans (hc.ext.block b hb hnl)
  rcases L_new b e with h2|h2
  ·exact hnl h2
  ·omega
 ·show c2.M b↔_
  rw[hmu2 b,hM0 b,hc.mu b]
  constructor
  ·rintro (⟨h2|⟨k,h2⟩,h3⟩|⟨j,h2⟩)
   ·exact .inl h2
   ·refine .inr ⟨k,?_⟩
    have hk:∀j,j < h1.length→ρ j≠k:=fun j hj e=>by
     subst e
     rcases Nat.lt_or_ge j h0.length with h4|h4
     ·exact h3 ((hL b).2 ⟨j,h4,h2⟩)
     ·rw[new_none j h4 hj]at h2;cases h2
    simp only[(blk_off k hk).1,(blk_off k hk).2]
    exact h2
   ·refine .inr ⟨ρ j,?_⟩
    simp only[blk_in j (blk_far j b h2)]
    exact h2
  ·rintro (h2|⟨k,h2⟩)
   ·refine .inl ⟨.inl h2,fun e=>?_⟩
    obtain⟨h3,h4⟩:=hc.fresh b h2
    rcases L_new b e with h5|h5
    ·exact h4 h5
    ·omega
   ·simp only at h2
    by_cases e:∃j,j < h1.length∧ρ j=k
    ·obtain⟨j,hj,rfl⟩:=e
     rw[blk_in j hj]at h2
     exact .inr ⟨j,h2⟩
    ·have hk:∀j,j < h1.length→ρ j≠k:=fun j hj e2=>e ⟨j,hj,e2⟩
     rw[(blk_off k hk).1,(blk_off k hk).2]at h2
     exact .inl ⟨.inr ⟨k,h2⟩,off_L k b hk h2⟩
 ·simp only at hb
  by_cases e:∃j,j < h1.length∧ρ j=k
  ·obtain⟨j,hj,rfl⟩:=e
   rw[blk_in j hj]at hb
   obtain⟨h2,h3⟩:=h.new j b hb
   refine⟨?_,h3⟩
   rcases h2 with h2|h2
   ·exact L_new b h2
   ·rw[hw0]at h2
    exact .inr (Nat.le_trans hc.ext.size h2)
  ·have hk:∀j,j < h1.length→ρ j≠k:=fun j hj e2=>e ⟨j,hj,e2⟩
   rw[(blk_off k hk).1,(blk_off k hk).2]at hb
   exact⟨(hc.new k b hb).1,Nat.lt_of_lt_of_le (hc.new k b hb).2 hext.size⟩
 ·simp only at hb hb'
  have mixed:∀j k,j < h1.length→(∀j,j < h1.length→ρ j≠k)→c2.block j (hatL h1 j)=some b→c.block k (s.heap k)=some b→False:=by
   intro j k hj hk h2 h3
   rcases(h.new j b h2).1 with h4|h4
   ·exact off_L k b hk h3 h4
   ·have:=(hc.new k b h3).2
    rw[hw0]at h4
    omega
  by_cases e:∃j,j < h1.length∧ρ j=k
  ·obtain⟨j,hj,rfl⟩:=e
   rw[blk_in j hj]at hb
   by_cases e':∃j,j < h1.length∧ρ j=k'
   ·obtain⟨j',hj',rfl⟩:=e'
    rw[blk_in j' hj']at hb'
    rw[h.apart j j' b hb hb']
   ·have hk:∀j,j < h1.length→ρ j≠k':=fun j hj e2=>e' ⟨j,hj,e2⟩
    rw[(blk_off k' hk).1,(blk_off k' hk).2]at hb'
    exact(mixed j k' hj hk hb hb').elim
  ·have hk:∀j,j < h1.length→ρ j≠k:=fun j hj e2=>e ⟨j,hj,e2⟩
   rw[(blk_off k hk).1,(blk_off k hk).2]at hb
   by_cases e':∃j,j < h1.length∧ρ j=k'
   ·obtain⟨j',hj',rfl⟩:=e'
    rw[blk_in j' hj']at hb'
    exact(mixed j' k hj' hk hb' hb).elim
   ·have hk':∀j,j < h1.length→ρ j≠k':=fun j hj e2=>e' ⟨j,hj,e2⟩
    rw[(blk_off k' hk').1,(blk_off k' hk').2]at hb'
    exact hc.apart k k' b hb hb'
 ·simp only
  by_cases e:∃j,j < h1.length∧ρ j=k
  ·obtain⟨j,hj,rfl⟩:=e
   have e2:=effM_at inj (h:=s.heap) h1 0 j hj
   rw[Nat.zero_add]at e2
   rw[e2]
   exact renC_ok (c:=c2) (c2:=c3) (fun _ _ h=>h) (fun _ h=>h) fwd_b fwd_o (in_bl j hj).1 (in_bl j hj).2 (h.chunk j)
  ·have hk:∀j,j < h1.length→ρ j≠k:=fun j hj e2=>e ⟨j,hj,e2⟩
   rw[(blk_off k hk).1]
   exact(hc.chunk k).keep hle hkp (fun b hb=>hext.block b (hc.new k b hb).2 (off_L k b hk hb)) (off_bl k hk).1 (off_bl k hk).2
 ·obtain⟨q1,q2⟩:=hc.lent k hk
  by_cases e:∃j,j < h1.length∧ρ j=k
  ·obtain⟨j,hj,rfl⟩:=e
   have hj0:j < h0.length:=by
    rcases Nat.lt_or_ge j h0.length with h2|h2
    ·exact h2
    ·have:=new_id (j - h0.length)
     rw[show h0.length+(j - h0.length)=j by omega]at this
     omega
   rw[(in_bl j hj).1,(in_bl j hj).2]
   exact⟨(lent_bl j hj0).1.trans q1,fun g u hu=>(lent_bl j hj0).2 g u (q2 g u hu)⟩
  ·have hk':∀j,j < h1.length→ρ j≠k:=fun j hj e2=>e ⟨j,hj,e2⟩
   rw[(off_bl k hk').1,(off_bl k hk').2]
   exact⟨q1,q2⟩
theorem RealC.lend {X:Cfg}{s:FS}{a:Act}{w:World}{c:Cx}(hc:RealC X s a w c){h0:List Chunk}{ls:List Nat}{nk:Nat}(hl:ls.length=h0.length)(hnd:ls.Nodup)(hlt:∀k∈ls,k < nk)(hbel:belowH h0.length h0=true)(hlent:lentOK s.heap (rid ls nk) 0 h0):
 ∃X1 c1,(X1.P=X.P∧X1.n=0∧X1.m=h0.length)∧(X1.w0=w∧X1.m=h0.length∧
  (∀b,X1.L b↔∃j,j < h0.length∧c.block (rid ls nk j) (s.heap (rid ls nk j))=some b)∧(∀b,X1.M0 b↔c.M b∧¬X1.L b)∧(∀j,j < h0.length→X1.c0.bl j=c.bl (rid ls nk j)∧X1.c0.ov j=c.ov (rid ls nk j)))∧
  RealC X1 (mkF [] h0) act0 w c1∧(∀(ps:List PV) (vs:List Value),belowL h0.length ps=true→RepPs c w (renL (rid ls nk) ps) vs→RepPs c1 w ps vs):=by
 generalize hρ:rid ls nk=ρ at*
 have inj:∀i j,ρ i=ρ j→i=j:=fun i j e=>by rw[←hρ]at e;exact rid_inj hnd hlt e
 let c1:Cx:={M:=c.M,bl:=fun j=>if j < h0.length then c.bl (ρ j)else none,ov:=fun j g=>if j < h0.length then c.ov (ρ j) g else none}
 have b1:∀j,j < h0.length→c1.bl j=c.bl (ρ j)∧c1.ov j=c.ov (ρ j):=fun j hj=>⟨if_pos hj,funext fun g=>if_pos hj⟩
 have lent:∀j,j < h0.length→s.heap (ρ j)=renC ρ (hatL h0 j):=fun j hj=>by
  have:=lentOK_at hlent (j:=j) hj
  rwa [Nat.zero_add]at this
 have blk:∀j,j < h0.length→c1.block j (hatL h0 j)=c.block (ρ j) (s.heap (ρ j)):=fun j hj=>by
  rw[lent j hj]
  exact block_ren (b1 j hj).1 (b1 j hj).2
 have far:∀j b,c1.block j (hatL h0 j)=some b→j < h0.length:=fun j b hb=>by
  rcases Nat.lt_or_ge j h0.length with hj|hj
  ·exact hj
  ·rw[hat_over h0 j hj]at hb;cases hb
 have hb:∀j,j < h0.length→∀b,c.bl (ρ j)=some b→c1.bl j=some b:=fun j hj b h=>by rw[(b1 j hj).1];exact h
 have ho:∀j,j < h0.length→∀g u,c.ov (ρ j) g=some u→c1.ov j g=some u:=fun j hj g u h=>by rw[(b1 j hj).2];exact h
 have below_at:∀(l:List Chunk) (j:Nat),belowH h0.length l=true→belowC h0.length (hatL l j)=true:=fun l j h=>hat_below h j
 refine⟨{P:=X.P,n:=0,m:=h0.length,w0:=w,M0:=fun b=>c.M b∧¬∃j,j < h0.length∧c.block (ρ j) (s.heap (ρ j))=some b,L:=fun b=>∃j,j < h0.length∧c.block (ρ j) (s.heap (ρ j))=some b,c0:=c1},c1,⟨rfl,rfl,rfl⟩,
  ⟨rfl,rfl,fun b=>Iff.rfl,fun b=>Iff.rfl,fun j hj=>b1 j hj⟩,⟨rfl,rfl,ExtL.refl _ _,hc.ginv.keep ⟨Nat.le_refl _,fun _ _ _=>rfl,fun b _ h=>h.elim And.left fun⟨j,_,hj⟩=>(hc.mu b).2 (.inr ⟨_,hj⟩)⟩,fun b hb=>⟨hc.lt hb.1,hb.2⟩,fun b=>?_,fun k b hk=>?_,fun k k' b hk hk'=>?_,fun t=> .any _,fun k=>?_,fun k _=>⟨rfl,fun _ _ h=>h⟩⟩,fun ps vs hps hr=>?_⟩
 ·show c.M b↔_
  by_cases e:∃j,j < h0.length∧c.block (ρ j) (s.heap (ρ j))=some b
  ·constructor
   ·intro _
    obtain⟨j,hj,h2⟩:=e
    exact .inr ⟨j,by rw[show (mkF [] h0).heap j=hatL h0 j from rfl,blk j hj];exact h2⟩
   ·intro _
    obtain⟨j,hj,h2⟩:=e
    exact(hc.mu b).2 (.inr ⟨_,h2⟩)
  ·constructor
   ·intro hm;exact .inl ⟨hm,e⟩
   ·rintro (h2|⟨j,h2⟩)
    ·exact h2.1
    ·have hj:=far j b h2
     exact absurd ⟨j,hj,by rw[←blk j hj];exact h2⟩ e
 ·have hj:=far k b hk
  have h2:c.block (ρ k) (s.heap (ρ k))=some b:=by rw[←blk k hj];exact hk
  exact⟨.inl ⟨k,hj,h2⟩,(hc.new _ b h2).2⟩
 ·have hj:=far k b hk
  have hj':=far k' b hk'
  have h2:c.block (ρ k) (s.heap (ρ k))=some b:=by rw[←blk k hj];exact hk
  have h3:c.block (ρ k') (s.heap (ρ k'))=some b:=by rw[←blk k' hj'];exact hk'
  exact inj _ _ (hc.apart _ _ b h2 h3)
 ·rcases Nat.lt_or_ge k h0.length with hk|hk
  ·have hck:=hc.chunk (ρ k)
   rw[lent k hk]at hck
   exact unrenC (c:=c) (c1:=c1) (ρ:=ρ) (fun _ _ h=>h) (fun _ h=>h) hb ho (b1 k hk).1 (b1 k hk).2 (below_at h0 k hbel) hck
  ·rw[show (mkF [] h0).heap k= .none from hat_over h0 k hk]
   exact .none (if_neg (by omega)) fun g=>if_neg (by omega)
 ·exact⟨by rw[←hr.1,renL_map,List.length_map],unrenL (c:=c) (c1:=c1) (ρ:=ρ) (fun _ _ h=>h) hb ho ps vs hps hr.2⟩
theorem lentOK_same {h h':Nat→Chunk}{ρ:Nat→Nat}:∀{l:List Chunk}{i:Nat},lentOK h ρ i l→(∀j,j < l.length→h' (ρ (i+j))=h (ρ (i+j)))→lentOK h' ρ i l
 |[],_,_,_=>trivial
 |c::l,i,⟨h1,h2⟩,hs=>⟨(hs 0 (by simp)).trans h1,lentOK_same h2 fun j hj=>by
  have:=hs (j+1) (by simpa using hj)
  rw[show i+1+j=i+(j+1) by omega];exact this⟩
theorem op_mcall {X:Cfg}{ops:Array Oper}{s:FS}{o:Oper}(hd:∀d,o.dst=some d→d < X.n){fo:Operand}{args:Array Operand}{tys:Array Nat}{g:Nat}{caps margs:List PV}{h0 h1:List Chunk}{r:PV}{ls:List Nat}{nk:Nat}(ho:o.op= .call {callee:= .value fo,args:=args,argTypes:=tys})
 (hf:ev s fo= .clo g caps∨∃cd:List D,ev s fo= .d (.clo g cd)∧caps=cd.map .d) (hM:MSpec X.P g margs h0 r h1) (ha:args.toList.map (ev s)++caps=renL (rid ls nk) margs)
 (hl:ls.length=h0.length) (hnd:ls.Nodup) (hlt:∀k∈ls,k < nk) (hlent:lentOK s.heap (rid ls nk) 0 h0) (hnew:∀i,h0.length+i < h1.length→s.heap (nk+i)= .none) (hnkm:X.m≤nk):
 OpOK X ops s o {pv:=ren (rid ls nk) r,eff:=effM (rid ls nk) 0 h1,touch:=(List.range h1.length).map (rid ls nk)}:=by
 refine⟨hd,fun kc h=>?_,fun s' he hkk a w hr K Q hK=>?_⟩
 ·have h2:=List.mem_map_of_mem (f:=(·.1)) h
  rw[effM_keys]at h2
  simpa using h2
 obtain⟨c,hc⟩:=hr
 have hin:∀j,j < h1.length→s'.heap (rid ls nk j)=s.heap (rid ls nk j):=fun j hj=>hkk _ (List.mem_map_of_mem (List.mem_range.2 hj))
 have hlent':=lentOK_same (h':=s'.heap) hlent fun j hj=>by
  rw[Nat.zero_add]
  exact hin j (Nat.lt_of_lt_of_le hj hM.le)
 have hnew':∀i,h0.length+i < h1.length→s'.heap (nk+i)= .none:=fun i hi=>by
  have:=rid_new ls nk i
  rw[hl]at this
  rw[←this,hin _ hi,this]
  exact hnew i hi
 have hopers:∀x,(x=fo∨x∈args)→ev s' x=ev s x:=fun x hx=>ev_same he x (by
  rw[ho]
  simp only[Op.operands,Call.operands]
  rcases hx with rfl|hx
  ·simp
  ·simp[hx])
 obtain⟨fvs,hfo,hfl2,hfr⟩:∃fvs:List Value,a.eval fo= .func (.func g) #[] fvs.toArray∧caps.length=fvs.length∧∀(j:Nat) (p:PV) (x:Value),caps[j]? =some p→fvs[j]? =some x→RepP c w p x:=by
  have h0:=ev_ok hc fo
  rw[hopers fo (.inl rfl)]at h0
  rcases hf with hf|⟨cd,hf,rfl⟩
  ·rw[hf]at h0
   generalize a.eval fo=u at h0
   cases h0 with
   |clo _ _ vs hl hrep=>exact⟨vs,rfl,hl,hrep⟩
  ·rw[hf]at h0
   generalize a.eval fo=u at h0
   have h0:=repD_inv h0
   cases h0 with
   |clo _ _ vs hl hrep=>
    refine⟨vs,rfl,by simpa using hl,fun j p x hj hx=>?_⟩
    simp only[List.getElem?_map,Option.map_eq_some_iff]at hj
    obtain⟨y,hy,rfl⟩:=hj
    exact .d _ _ (hrep j y x hy hx)
 have hargs:RepPs c w (renL (rid ls nk) margs) (args.toList.map a.eval++fvs):=by
  rw[←ha]
  refine⟨by simp[hfl2],fun j p x hp hx=>?_⟩
  by_cases hlt:j < args.toList.length
  ·rw[List.getElem?_append_left (by simpa using hlt)]at hp hx
   simp only[List.getElem?_map,Option.map_eq_some_iff]at hp hx
   obtain⟨y,hy,rfl⟩:=hp
   obtain⟨y',hy',rfl⟩:=hx
   rw[hy]at hy'
   cases hy'
   have:=ev_ok hc y
   rwa [hopers y (.inr (by simpa using List.mem_of_getElem? hy))]at this
  ·rw[List.getElem?_append_right (by simpa using hlt)]at hp hx
   simp only[List.length_map]at hp hx
   exact hfr _ p x hp hx
 obtain⟨X1,c1,⟨e1,e2,e3⟩,hX1,hr1,hps⟩:=hc.lend hl hnd hlt hM.bh hlent'
 have hcall:=hM.run X1 e1 e2 e3 w c1 (args.toList.map a.eval++fvs) hr1 (hps _ _ hM.ba hargs)
 have hrun:(execOp a.eval o).run X.P w= .ok (.enter g (args.toList.map a.eval++fvs).toArray) w:=by
  have e:(args.toList.map a.eval++fvs).toArray=args.map a.eval++fvs.toArray:=by
   apply Array.ext'
   simp
  rw[e]
  simp[execOp,ho,resolve,hfo,Deferred.ofValue,invoke]
  exact hM.fn _ _
 unfold Oper.wp
 rw[hrun,Oper.upon_enter]
 refine hcall.mono ?_
 rintro e w' ⟨v,c2,rfl,hv,hr2⟩
 obtain⟨c3,g1,g2⟩:=hc.back hX1 hM.le hl hnd hlt hnew' hnkm hr2 hv
 exact hK v w' ⟨c3,g1.put g2 hd⟩
theorem effH_same:∀{eff:List (Nat × Chunk)}{h:Nat→Chunk},(∀kc∈eff,h kc.1=kc.2)→effH eff h=h
 |[],_,_=>rfl
 |(k,c)::l,h,hs=>by
  funext k'
  simp only[effH]
  split
  ·rename_i e;subst e;exact(hs (k',c) (List.mem_cons_self ..)).symm
  ·rw[effH_same fun kc hk=>hs kc (by simp[hk])]
theorem opok_ro {X:Cfg}{ops:Array Oper}{s:FS}{o:Oper}{r:Res}(h:OpOK X ops s o r)(he:∀kc∈r.eff,s.heap kc.1=kc.2):OpOK X ops s o {r with eff:=[]}:=by
 refine⟨h.1,by simp,fun s' h1 h2 a w hr K Q hK=>h.2.2 s' h1 h2 a w hr K Q fun v w' hr'=>hK v w' ?_⟩
 have:effH r.eff s'.heap=s'.heap:=effH_same fun kc hk=>by rw[h2 _ (h.2.1 kc hk)];exact he kc hk
 have e2:s'.app o.dst r=s'.app o.dst {r with eff:=[]}:=by
  unfold FS.app
  rw[this]
  rfl
 rw[←e2];exact hr'
theorem effM_lent {h:Nat→Chunk}{ρ:Nat→Nat}:∀{l:List Chunk}{i:Nat},lentOK h ρ i l→∀kc∈effM ρ i l,h kc.1=kc.2
 |[],_,_,kc,hk=>by simp[effM]at hk
 |c::l,i,⟨h1,h2⟩,kc,hk=>by
  simp only[effM,List.mem_cons]at hk
  rcases hk with rfl|hk
  ·exact h1
  ·exact effM_lent h2 kc hk
theorem op_rcall {X:Cfg}{ops:Array Oper}{s:FS}{o:Oper}(hd:∀d,o.dst=some d→d < X.n){fo:Operand}{args:Array Operand}{tys:Array Nat}{g:Nat}{caps margs:List PV}{h0:List Chunk}{r:PV}{ls:List Nat}{nk:Nat}(ho:o.op= .call {callee:= .value fo,args:=args,argTypes:=tys})
 (hf:ev s fo= .clo g caps∨∃cd:List D,ev s fo= .d (.clo g cd)∧caps=cd.map .d) (hM:MSpec X.P g margs h0 r h0) (ha:args.toList.map (ev s)++caps=renL (rid ls nk) margs)
 (hl:ls.length=h0.length) (hnd:ls.Nodup) (hlt:∀k∈ls,k < nk) (hlent:lentOK s.heap (rid ls nk) 0 h0) (hnkm:X.m≤nk):
 OpOK X ops s o {pv:=ren (rid ls nk) r,eff:=[],touch:=(List.range h0.length).map (rid ls nk)}:=
 opok_ro (op_mcall hd ho hf hM ha hl hnd hlt hlent (fun i hi=>by omega) hnkm) (effM_lent hlent)
theorem mapEnts_get (s:Bool):∀(l:List (List Int × Int)) (j i:Nat),(mapEnts s l j)[i]? =(l[i]?).map fun kv=>{key:=keyV s kv.1,val:= .int .i64 kv.2,born:=j+i}
 |[],j,i=>by simp[mapEnts]
 |(k,v)::l,j,0=>by simp[mapEnts]
 |(k,v)::l,j,i+1=>by
  simp only[mapEnts,List.getElem?_cons_succ]
  rw[mapEnts_get s l (j+1) i]
  simp only[show j+1+i=j+(i+1) by omega]
theorem mapEnts_born (s:Bool):∀(l:List (List Int × Int)) (j:Nat),∀x∈mapEnts s l j,j≤x.born∧x.born < j+l.length
 |[],j,x,hx=>by simp[mapEnts]at hx
 |(k,v)::l,j,x,hx=>by
  simp only[mapEnts,List.mem_cons]at hx
  rcases hx with rfl|hx
  ·simp
  ·have:=mapEnts_born s l (j+1) x hx
   simp only[List.length_cons];omega
theorem mapEnts_nodup (s:Bool):∀(l:List (List Int × Int)) (j:Nat),((mapEnts s l j).map (·.born)).Nodup
 |[],j=>by simp[mapEnts]
 |(k,v)::l,j=>by
  simp only[mapEnts,List.map_cons,List.nodup_cons,List.mem_map,not_exists,not_and]
  exact⟨fun x hx e=>by have:=(mapEnts_born s l (j+1) x hx).1;omega,mapEnts_nodup s l (j+1)⟩
theorem RealC.range {X:Cfg}{s:FS}{a:Act}{w:World}{c:Cx}(h:RealC X s a w c){k nk n b:Nat}{sB:Bool}{ents:List (List Int × Int)}(hk:s.heap k= .mp n sB ents)(hnk:s.heap nk= .none)(hnkm:¬nk < X.m)(hb:c.bl k=some b)(hh:w.heap[b]? =some (.map (mapEnts sB ents 0).toArray ents.length)):
 ∃c',RealC X {s with heap:=effH [(nk,.it n sB ents []),(k,.gone)] s.heap} a (w.alloc (.mapIter (some b) ents.length #[] ents.length)) c'∧RepP c' (w.alloc (.mapIter (some b) ents.length #[] ents.length)) (.ptr nk 0) (.pointer (some ⟨w.heap.size,0,none⟩)):=by
 have h1:=h.freeze [k]
 have hne:nk≠k:=fun e=>by rw[e,hk]at hnk;cases hnk
 have hnk1:effH ([k].map fun k=>(k,Chunk.gone)) s.heap nk= .none:=by
  simp only[List.map_cons,List.map_nil,effH,if_neg hne];exact hnk
 have hck:=h1.chunk nk
 simp only at hck
 rw[hnk1]at hck
 have hlt:b < w.heap.size:=(Array.getElem?_eq_some_iff.1 hh).1
 cases hck with
 |none hb0 ho0=>
  have hx:=alloc_ext w (.mapIter (some b) ents.length #[] ents.length)
  have hbk:(fun k'=>if k'=nk then some w.heap.size else c.bl k') nk=some w.heap.size:=if_pos rfl
  refine⟨{M:=fun b=>lessM c s.heap [k] b∨b=w.heap.size,bl:=fun k'=>if k'=nk then some w.heap.size else c.bl k',ov:=c.ov},?_,.ptr nk 0 _ hbk⟩
  refine h1.new_chunk (ch:= .it n sB ents []) hnk1 hnkm hx ⟨fun k' b hb=>?_,fun _ _ _ h=>h⟩ (fun k' hne=>if_neg hne) (fun _ _=>rfl) (fun b=>?_) (fun b hb=>?_) (fun hkp=>?_)
  ·have:k'≠nk:=fun e=>by subst e;rw[hb0]at hb;cases hb
   show (if k'=nk then some w.heap.size else c.bl k')=some b
   rw[if_neg this];exact hb
  ·simp only[Cx.block,if_true,Option.some.injEq]
   exact⟨fun h=>h.imp id Eq.symm,fun h=>h.imp id Eq.symm⟩
  ·simp only[Cx.block,if_true,Option.some.injEq]at hb
   rw[size_alloc];omega
  ·refine .it n sB ents [] w.heap.size b hbk (alloc_at w _) (fun hM=>?_) (by rw[hx.block b hlt];exact hh)
   rcases hM with hM|hM
   ·exact hM.2 k (by simp) (by rw[hk];exact hb)
   ·omega
section
variable {X:Cfg}{ops:Array Oper}{s:FS}{o:Oper}(hd:∀d,o.dst=some d→d < X.n)
include hd
theorem op_range {t k nk n:Nat}{sB:Bool}{m:Operand}{ents:List (List Int × Int)}(ho:o.op= .range t m)(hm:MapOK X.P t n sB)(hmr:ev s m= .mref k)(hk:s.heap k= .mp n sB ents)(hnk:s.heap nk= .none)(hkm:¬nk < X.m):
 OpOK X ops s o {pv:= .ptr nk 0,eff:=[(nk,.it n sB ents []),(k,.gone)],touch:=[k,nk]}:=
 opok_gen hd (fun kc h=>by simp at h;rcases h with rfl|rfl<;>simp) fun s' he hkk a w c hc=>by
  have e1:=ev_ok hc m
  rw[he m (by simp[ho,Op.operands]),hmr]at e1
  have hk':s'.heap k= .mp n sB ents:=by rw[hkk k (by simp)];exact hk
  have hck:=hc.chunk k
  rw[hk']at hck
  generalize hu:a.eval m=u at e1
  cases e1 with
  |mref _ b hb=>
   cases hck with
   |mp _ _ _ b' hb' hh hn=>
    rw[hb]at hb'
    cases hb'
    obtain⟨c',h1,h2⟩:=hc.range hk' (by rw[hkk nk (by simp)];exact hnk) hkm hb hh
    obtain⟨kt,et,i,hut,-⟩:=hm
    refine⟨_,_,_,?_,.inl rfl,c',h1,h2⟩
    simp only[execOp,ho,hu]
    rw[Sem.run_bind,run_range_map w t kt et b _ _ hut hh]
    rfl
theorem op_entry {k n i:Nat}{sB:Bool}{x:Operand}{ents:List (List Int × Int)}{seen:List Nat}{kv:List Int × Int}(ho:o.op= .entry x)(hx:ev s x= .ptr k 0)(hk:s.heap k= .it n sB ents seen)(hl:seen.getLast? =some i)(hi:ents[i]? =some kv):
 OpOK X ops s o {pv:= .tup [.any,.d (.v (.int .i64 kv.2))],touch:=[k]}:=
 opok_read hd fun s' he hkk a w c hc=>by
  have e1:=ev_ok hc x
  rw[he x (by simp[ho,Op.operands]),hx]at e1
  have hk':s'.heap k= .it n sB ents seen:=by rw[hkk k (by simp)];exact hk
  have hck:=hc.chunk k
  rw[hk']at hck
  generalize hu:a.eval x=u at e1
  cases e1 with
  |ptr _ _ b hb=>
   cases hck with
   |it _ _ _ _ b' bm hb' hh hM hm=>
    rw[hb]at hb'
    cases hb'
    obtain⟨pre,rfl⟩:∃pre,seen=pre++[i]:=by
     rw[List.getLast?_eq_some_iff]at hl
     exact hl
    have hg:=mapEnts_get sB ents 0 i
    rw[hi]at hg
    have hh2:w.heap[b]? =some (.mapIter (some bm) ents.length (pre.toArray.push i) ents.length):=by rw[hh];simp
    have hrun:=run_entry_at (P:=X.P) w b bm ents.length pre.toArray (mapEnts sB ents 0).toArray ents.length {key:=keyV sB kv.1,val:= .int .i64 kv.2,born:=i} hh2 hm (by
     have:=List.mem_of_getElem? hg
     simpa using this) (by simpa using mapEnts_nodup sB ents 0)
    refine⟨.tuple #[keyV sB kv.1,.int .i64 kv.2],?_,.tup _ [keyV sB kv.1,.int .i64 kv.2] rfl ?_⟩
    ·simp only[execOp,ho,hu]
     rw[Sem.run_bind,hrun]
     rfl
    ·intro j d y h1 h2
     match j with
     |0=>simp at h1 h2;subst h1;exact .any _
     |1=>simp at h1 h2;subst h1;subst h2;exact .d _ _ (.v _)
     |j+2=>simp at h1
end
end Go.Proofs.YtmicljipaiohkaaGreat
