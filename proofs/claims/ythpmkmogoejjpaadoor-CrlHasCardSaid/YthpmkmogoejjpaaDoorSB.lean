/- Whatever came in, as the machine over values tells it: one cell, or an aggregate. -/
import Derived.Test.YthpmkmogoejjpaaDoorSA
import Derived.Test.YthpmkmogoejjpaaDoorVMU
import Derived.SizedLaws
set_option linter.unusedSimpArgs false
set_option linter.unusedVariables false
namespace Go.Proofs.YthpmkmogoejjpaaDoor
open Go Go.VM Go.RowKit
variable {G : GE}
theorem xfit_int {B f t:Nat} {k:IntKind} {i:TI} (ht:(envG G).tt t=some i) (hk:i.k= .int k) {ds:List D} (h:Fit (envG G).tt B f t ds): ∃n,ds=[.int k n]∧k.wrap n=n:=by
 cases f with
 |zero=>exact h.elim
 |succ f=>simp only[Fit,ht,hk] at h;exact h
theorem xfit_nums {B f t e:Nat} {k:IntKind} {i j:TI} (ht:(envG G).tt t=some i) (hk:i.k= .slice e) (he:(envG G).tt e=some j) (hj:j.k= .int k) {ds:List D} (h:Fit (envG G).tt B f t ds):
  ∃nl xs,ds=[.nums k nl xs]∧(nl=true→xs=[])∧xs.length≤B∧ ∀x∈xs,k.wrap x=x:=by
 cases f with
 |zero=>exact h.elim
 |succ f=>simp only[Fit,ht,hk,he,hj] at h;exact h
theorem xfit_str {B f t:Nat} {i:TI} (ht:(envG G).tt t=some i) (hk:i.k= .str) {ds:List D} (h:Fit (envG G).tt B f t ds): ∃l,ds=[.str l]∧l.length≤B∧ ∀c∈l,0≤c∧c<256:=by
 cases f with
 |zero=>exact h.elim
 |succ f=>simp only[Fit,ht,hk] at h;exact h
theorem xfit_sl {B f t e:Nat} {i j:TI} {fs:List (Nat×Nat)} (ht:(envG G).tt t=some i) (hk:i.k= .slice e) (he:(envG G).tt e=some j) (hj:j.k= .struct fs) {ds:List D} (h:Fit (envG G).tt B f t ds):
  ∃f' nl xs,ds=[.sl j.size nl xs]∧(nl=true→xs=[])∧xs.length≤B∧ ∀c∈xs,c.length=j.size∧Fit (envG G).tt B f' e c:=by
 cases f with
 |zero=>exact h.elim
 |succ f=>simp only[Fit,ht,hk,he,hj] at h;exact⟨f,h⟩
theorem xu8_of {xs:List Int} (h: ∀x∈xs,IntKind.u8.wrap x=x): ∀c∈xs,0≤c∧c<256:=fun c hc=>by
 have:=(wrap_iff .u8 c).1 (h c hc)
 simp[IntKind.min,IntKind.max,IntKind.bits,IntKind.signed] at this
 omega
theorem xi64_of {x:Int} (h:IntKind.i64.wrap x=x): -9223372036854775808≤x∧x≤9223372036854775807:=by
 have:=(wrap_iff .i64 x).1 h
 simp[IntKind.min,IntKind.max,IntKind.bits,IntKind.signed] at this
 omega
theorem all_map {α β:Type} {g:α→β} {P:α→Prop}: ∀ {l:List β},(∀c∈l,∃a,c=g a∧P a)→ ∃es:List α,l=es.map g∧ ∀a∈es,P a
 |[],_=>⟨[],rfl,by simp⟩
 |c::l,h=>by
  obtain⟨a,rfl,ha⟩:=h c (List.mem_cons_self ..)
  obtain⟨es,rfl,has⟩:=all_map (l:=l) (fun c hc=>h c (List.mem_cons_of_mem _ hc))
  refine⟨a::es,rfl,fun b hb=> ?_⟩
  rcases List.mem_cons.1 hb with rfl|hb
  ·exact ha
  ·exact has b hb
end Go.Proofs.YthpmkmogoejjpaaDoor
set_option linter.unusedSimpArgs false
set_option linter.unusedVariables false
namespace Go.Proofs.YthpmkmogoejjpaaDoor
open Go Go.VM Go.RowKit
variable {G : GE}
theorem sized_j {H:Type} {P:Program} {ts:List TypeId} {ds:List (DataW H)} (h:(DataW.weightsEach P ts ds).all (· ≤reachBytes)=true) {j:Nat} {t:TypeId} {d:DataW H} (ht:ts[j]? =some t) (hd:ds[j]? =some d):
  ∀n∈d.weights P t,n≤140737488351232:=fun n hn=>by
 have:=List.all_eq_true.1 h n (DataW.weights_mem_each ht hd n hn)
 exact of_decide_eq_true this
theorem wagg_in {H:Type} {enc:TypeId×Value→H} {W:World} {arr:Array Value} {d:DataW H} {p:List MemPlace} {t B:Nat} (O:EnvOk Tryd.prog (envG G)) {L:List Nat} (hL:closedB (envG G).tt L=true) (ht:t∈L)
  (h:DataW.Trod enc Tryd.prog W 0 (fun _=>true) true t (.agg arr) d p) (hw: ∀n∈d.weights Tryd.prog t,n≤B): ∃(ds:List D) (f:Nat),RepD W noOwn (.agg arr) (.agg ds)∧Fit (envG G).tt B f t ds:=by
 obtain⟨fuel,hf⟩:=h
 obtain⟨ds,⟨g1,g2,g3⟩,hfit⟩:=open_meas O.tt (L:=L) hL B (meas_weight Tryd.prog B) fuel t _ _ ht hf hw
 have e:(Value.agg arr).cells.toList=arr.toList:=rfl
 rw[e] at g1 g2 g3
 refine⟨ds,fuel,.agg arr ds (by simpa using g1.symm) (fun j hj=> ?_) (fun j y hy=> ?_),hfit⟩
 ·have:arr.getD j undef=arr.toList[j]'(by simpa using hj):=by simp[Array.getD,hj]
  rw[this]
  exact g3 _ (List.getElem_mem _)
 ·have hlt:=(List.getElem?_eq_some_iff.1 hy).1
  rw[g1] at hlt
  have h1:arr.toList[j]? =some (arr.getD j undef):=by
   have:j<arr.size:=by simpa using hlt
   simp[Array.getD,this]
  exact g2 j _ y h1 hy
theorem field_len {H:Type} {enc:TypeId×Value→H} {W:World} {arr:Array Value} {d:DataW H} {p:List MemPlace} {t e B q:Nat} {fs:Array Field} {fl:Field}
  (h:DataW.Trod enc Tryd.prog W 0 (fun _=>true) true t (.agg arr) d p) (hw: ∀n∈d.weights Tryd.prog t,n≤B) (ht:Tryd.prog.underlying t=some (.struct fs)) (hq:fs[q]? =some fl)
  (he:Tryd.prog.underlying fl.type=some (.slice e)) (hc:Tryd.prog.cellsOf fl.type=1) {ds:List D} (R:RepD W noOwn (.agg arr) (.agg ds)) {sz:Nat} {nl:Bool} {xs:List (List D)} (hd:ds[fl.offset]? =some (.sl sz nl xs)):
  xs.length*Tryd.prog.bytesOf e≤B:=by
 obtain⟨fuel,hf⟩:=h
 obtain⟨ys,n,rfl,hx,hl,hyl,hfield⟩:=DataW.trod_struct ht hf
 have hh:=hfield q fl hq
 rw[hc] at hh
 have hx1:d= .agg (ys.map (·.1)):=congrArg Prod.fst hx
 cases R with
 |agg arr' cs hs h1 hr=>
  have R3:=hr _ _ hd
  have hlt:=(List.getElem?_eq_some_iff.1 hd).1
  rw[←hs] at hlt
  have e1:((Value.agg arr).cells.toList.drop fl.offset).take 1=[arr.getD fl.offset undef]:=by
   have e:(Value.agg arr).cells.toList=arr.toList:=rfl
   rw[e]
   have hlt' :fl.offset<arr.toList.length:=by simpa using hlt
   rw[List.drop_eq_getElem_cons hlt']
   simp[Array.getD,hlt]
  rw[e1] at hh
  have hq2:q<ys.length:=by
   rw[hyl]
   exact(Array.getElem?_eq_some_iff.1 hq).1
  rw[List.getElem?_eq_getElem hq2] at hh
  have hwq: ∀n∈(ys[q].1).weights Tryd.prog fl.type,n≤B:=fun n hn=>hw n (by
   rw[hx1]
   simp only[DataW.weights,ht]
   exact DataW.weights_mem_each (by rw[List.getElem?_map];have:fs.toList[q]? =some fl:=by simpa using hq
                                    rw[this];rfl) (by rw[List.getElem?_map,List.getElem?_eq_getElem hq2];rfl) n hn)
  rcases DataW.trod_slice he hh with⟨hv,hy⟩|⟨a,len,cap,elems,rest,m,_,hv,hy,_,_,_,hlen,_⟩
  ·have hv:arr.getD fl.offset undef= .slice none 0 0:=by simpa using hv
   rw[hv] at R3
   cases R3
   simp
  ·have hv:arr.getD fl.offset undef= .slice (some a) len cap:=by simpa using hv
   rw[hv] at R3
   have hxl:xs.length≤len:=by
    cases R3 with
    |slE=>simp
    |sl _ _ _ _ _ _ _ hl=>omega
   have:=hwq ((elems.length+rest.length)*Tryd.prog.bytesOf e) (by rw[hy];simp[DataW.weights,he])
   have h2:xs.length*Tryd.prog.bytesOf e≤(elems.length+rest.length)*Tryd.prog.bytesOf e:=Nat.mul_le_mul_right _ (by omega)
   omega
end Go.Proofs.YthpmkmogoejjpaaDoor
namespace Go.Proofs.YthpmkmogoejjpaaDoor
open Go Go.VM
set_option linter.unusedSimpArgs false
set_option linter.unusedVariables false
theorem at_of_drop {α:Type} {l:List α} {i:Nat} {p:α} {t:List α} (h:l.drop i=p::t):l[i]? =some p:=by
 have:(l.drop i)[0]? =some p:=by rw[h];rfl
 simpa using this
theorem drop_succ {α:Type} {l:List α} {i:Nat} {p:α} {t:List α} (h:l.drop i=p::t):l.drop (i+1)=t∧i<l.length:=by
 refine⟨by rw[←List.drop_drop,h];rfl, ?_⟩
 rcases Nat.lt_or_ge i l.length with h1|h1
 ·exact h1
 ·rw[List.drop_eq_nil_of_le h1] at h;cases h
theorem drop_nil {α:Type} {l:List α} {i:Nat} (h:l.drop i=[]):l.length≤i:=by simpa using h
inductive Tlv where
 |mk (cls tag:Int) (made bnil:Bool) (body:List Int) (knil:Bool) (kids:List Tlv)
mutual
def Tlv.cells:Tlv→List D
 | .mk c t m bn b kn ks=>[.int .i64 c,.int .i64 t,.bool m,.nums .u8 bn b,.sl 5 kn (Tlv.cellsL ks)]
def Tlv.cellsL:List Tlv→List (List D)
 |[]=>[]
 |x::l=>x.cells::Tlv.cellsL l
end
mutual
def Tlv.same:Tlv→Tlv→Bool
 | .mk c t m _ b _ ks,.mk c' t' m' _ b' _ ks' =>decide (c=c' ∧t=t' ∧m=m' ∧b=b' ∧ks.length=ks'.length) && Tlv.sameL ks ks'
def Tlv.sameL:List Tlv→List Tlv→Bool
 |x::l,y::l' =>x.same y && Tlv.sameL l l'
 |_,_=>true
end
mutual
def Tlv.depth:Tlv→Nat
 | .mk _ _ _ _ _ _ ks=>Tlv.depthL ks+1
def Tlv.depthL:List Tlv→Nat
 |[]=>0
 |x::l=>max x.depth (Tlv.depthL l)
end
mutual
def Tlv.fits (F:Nat):Tlv→Prop
 | .mk _ _ _ _ _ _ ks=>ks.length<F∧Tlv.fitsL F ks
def Tlv.fitsL (F:Nat):List Tlv→Prop
 |[]=>True
 |x::l=>x.fits F∧Tlv.fitsL F l
end
theorem cellsL_len: ∀l:List Tlv,(Tlv.cellsL l).length=l.length
 |[]=>rfl
 |x::l=>by simp[Tlv.cellsL,cellsL_len l]
theorem cellsL_map: ∀l:List Tlv,Tlv.cellsL l=l.map Tlv.cells
 |[]=>rfl
 |x::l=>by simp[Tlv.cellsL,cellsL_map l]
theorem depthL_mem {x:Tlv}: ∀ {l:List Tlv},x∈l→x.depth≤Tlv.depthL l
 |y::l,h=>by
  simp only[Tlv.depthL]
  rcases List.mem_cons.1 h with rfl|h
  ·omega
  ·have:=depthL_mem h;omega
theorem fitsL_mem {F:Nat} {x:Tlv}: ∀ {l:List Tlv},Tlv.fitsL F l→x∈l→x.fits F
 |y::l,hf,h=>by
  simp only[Tlv.fitsL] at hf
  rcases List.mem_cons.1 h with rfl|h
  ·exact hf.1
  ·exact fitsL_mem hf.2 h
mutual
def Tlv.width (B:Nat):Tlv→Prop
 | .mk _ _ _ _ b _ ks=>b.length≤B∧ks.length≤B∧Tlv.widthL B ks
def Tlv.widthL (B:Nat):List Tlv→Prop
 |[]=>True
 |x::l=>x.width B∧Tlv.widthL B l
end
theorem widthL_mem {B:Nat} {x:Tlv}: ∀ {l:List Tlv},Tlv.widthL B l→x∈l→x.width B
 |y::l,hf,h=>by
  simp only[Tlv.widthL] at hf
  rcases List.mem_cons.1 h with rfl|h
  ·exact hf.1
  ·exact widthL_mem hf.2 h
mutual
def Tlv.light:Nat→Tlv→Int→Int
 |0,_,_=> -1
 |d+1,.mk _ _ _ _ b _ ks,left=>if left-1-b.length<0 then-1 else Tlv.lightL d ks (left-1-b.length)
def Tlv.lightL:Nat→List Tlv→Int→Int
 |_,[],left=>left
 |d,x::l,left=>if x.light d left<0 then-1 else Tlv.lightL d l (x.light d left)
end
mutual
theorem light_le: ∀(d:Nat) (x:Tlv) (left:Int),-1≤x.light d left∧(0≤left→x.light d left≤left)
 |0,x,left=>by simp[Tlv.light];omega
 |d+1,.mk _ _ _ _ b _ ks,left=>by
  simp only[Tlv.light]
  split
  ·omega
  ·have:=lightL_le d ks (left-1-b.length) (by omega)
   omega
theorem lightL_le: ∀(d:Nat) (l:List Tlv) (left:Int),0≤left→ -1≤Tlv.lightL d l left∧Tlv.lightL d l left≤left
 |d,[],left,h=>by simp[Tlv.lightL];omega
 |d,x::l,left,h=>by
  simp only[Tlv.lightL]
  have h1:=light_le d x left
  split
  ·omega
  ·have:=lightL_le d l (x.light d left) (by omega)
   omega
end
mutual
def Tlv.fine:Tlv→Bool
 | .mk c t m _ b _ ks=>decide (0≤c∧c≤3∧0≤t∧t≤30∧(m=true→b=[])∧(m=false→ks=[])) && Tlv.fineL ks
def Tlv.fineL:List Tlv→Bool
 |[]=>true
 |x::l=>x.fine && Tlv.fineL l
end
mutual
def Tlv.weight:Tlv→Nat
 | .mk _ _ _ _ b _ ks=>1+b.length+Tlv.weightL ks
def Tlv.weightL:List Tlv→Nat
 |[]=>0
 |x::l=>x.weight+Tlv.weightL l
end
mutual
theorem light_weight: ∀(d:Nat) (x:Tlv) (left:Int),0≤x.light d left→x.light d left=left-x.weight∧x.depth≤d
 |0,x,left,h=>by simp[Tlv.light] at h
 |d+1,.mk _ _ _ _ b _ ks,left,h=>by
  simp only[Tlv.light] at h⊢
  split at h
  ·omega
  ·rename_i hn
   rw[if_neg hn]
   have:=lightL_weight d ks (left-1-b.length) (by omega) h
   simp only[Tlv.weight,Tlv.depth]
   omega
theorem lightL_weight: ∀(d:Nat) (l:List Tlv) (left:Int),0≤left→0≤Tlv.lightL d l left→Tlv.lightL d l left=left-Tlv.weightL l∧Tlv.depthL l≤d
 |d,[],left,h0,h=>by simp[Tlv.lightL,Tlv.weightL,Tlv.depthL]
 |d,x::l,left,h0,h=>by
  simp only[Tlv.lightL] at h⊢
  split at h
  ·omega
  ·rename_i hn
   rw[if_neg hn]
   have h1:=light_weight d x left (by omega)
   have h2:=lightL_weight d l (x.light d left) (by omega) h
   simp only[Tlv.weightL,Tlv.depthL]
   omega
end
def sizeB (n:Nat):List Int:=if n<128 then [(n:Int)] else if n<256 then [129,(n:Int)] else if n<65536 then [130,(n:Int)/256,(n:Int) % 256] else [131,(n:Int)/65536,(n:Int)/256 % 256,(n:Int) % 256]
def headB (c t:Int) (m:Bool) (n:Nat):List Int:=(64*c+t+(if m then 32 else 0))::sizeB n
mutual
def Tlv.enc:Tlv→List Int
 | .mk c t m _ b _ ks=>headB c t m (b++Tlv.encL ks).length++(b++Tlv.encL ks)
def Tlv.encL:List Tlv→List Int
 |[]=>[]
 |x::l=>x.enc++Tlv.encL l
end
theorem sizeB_le (n:Nat):(sizeB n).length≤4:=by
 unfold sizeB;repeat' split
 all_goals simp
mutual
theorem enc_le: ∀x:Tlv,x.enc.length≤6*x.weight
 | .mk c t m _ b _ ks=>by
  have:=encL_le ks
  have h2:=sizeB_le (b++Tlv.encL ks).length
  simp only[Tlv.enc,Tlv.weight,headB,List.length_append,List.length_cons] at h2⊢
  omega
theorem encL_le: ∀l:List Tlv,(Tlv.encL l).length≤6*Tlv.weightL l
 |[]=>by simp[Tlv.encL]
 |x::l=>by
  have h1:=enc_le x
  have h2:=encL_le l
  simp only[Tlv.encL,Tlv.weightL,List.length_append]
  omega
end
theorem weightL_mem {x:Tlv}: ∀ {l:List Tlv},x∈l→x.weight≤Tlv.weightL l
 |y::l,h=>by
  simp only[Tlv.weightL]
  rcases List.mem_cons.1 h with rfl|h
  ·omega
  ·have:=weightL_mem h;omega
theorem fineL_mem {x:Tlv}: ∀ {l:List Tlv},Tlv.fineL l=true→x∈l→x.fine=true
 |y::l,hf,h=>by
  simp only[Tlv.fineL,Bool.and_eq_true] at hf
  rcases List.mem_cons.1 h with rfl|h
  ·exact hf.1
  ·exact fineL_mem hf.2 h
mutual
def Tlv.bytesOk:Tlv→Prop
 | .mk _ _ _ _ b _ ks=>(∀c∈b,0≤c∧c<256)∧Tlv.bytesOkL ks
def Tlv.bytesOkL:List Tlv→Prop
 |[]=>True
 |x::l=>x.bytesOk∧Tlv.bytesOkL l
end
theorem bytesOk_mem {x:Tlv}: ∀ {l:List Tlv},Tlv.bytesOkL l→x∈l→x.bytesOk
 |y::l,hf,h=>by
  simp only[Tlv.bytesOkL] at hf
  rcases List.mem_cons.1 h with rfl|h
  ·exact hf.1
  ·exact bytesOk_mem hf.2 h
mutual
theorem weight_width {W:Nat}: ∀x:Tlv,x.weight≤W→x.width W
 | .mk _ _ _ _ b _ ks,h=>by
  simp only[Tlv.weight] at h
  have:=weightL_len ks
  exact⟨by omega,by omega,weightL_width ks (by omega)⟩
theorem weightL_width {W:Nat}: ∀l:List Tlv,Tlv.weightL l≤W→Tlv.widthL W l
 |[],_=>trivial
 |x::l,h=>by
  simp only[Tlv.weightL] at h
  exact⟨weight_width x (by omega),weightL_width l (by omega)⟩
theorem weightL_len: ∀l:List Tlv,l.length≤Tlv.weightL l
 |[]=>by simp[Tlv.weightL]
 | .mk _ _ _ _ b _ ks::l=>by
  have:=weightL_len l
  simp only[Tlv.weightL,Tlv.weight,List.length_cons];omega
end
end Go.Proofs.YthpmkmogoejjpaaDoor
set_option linter.unusedSimpArgs false
set_option linter.unusedVariables false
namespace Go.Proofs.YthpmkmogoejjpaaDoor
open Go Go.VM
def rows (l:List (Int×List Int)):List (List D):=l.map fun p=>[.int .i64 p.1,.str p.2]
def odd (c:Int):Bool:=decide (c<32∨126<c)
def textBad (s:List Int):Int:=if 64<s.length then 2 else if s=[] then 7 else if s.any odd then 7 else 0
def isKind (k:Int):Bool:=decide (k=3∨k=6∨k=10∨k=11)
def partOk (p:Int×List Int):Bool:=isKind p.1 && decide (textBad p.2=0)
def may (l:List (Int×List Int)):Bool:=decide (l.length≤8) && l.all partOk
def leafD (tag:Int) (b:List Int):List D:=[.int .i64 0,.int .i64 tag,.bool false,.nums .u8 false b,.sl 5 true []]
def nodeD (tag:Int) (nl:Bool) (kids:List (List D)):List D:=[.int .i64 0,.int .i64 tag,.bool true,.nums .u8 true [],.sl 5 nl kids]
def partD (p:Int×List Int):List D:=nodeD 17 false [nodeD 16 false [leafD 6 [85,4,p.1],leafD 12 p.2]]
def nameD (l:List (Int×List Int)):List D:=nodeD 16 l.isEmpty (l.map partD)
def leafT (tag:Int) (b:List Int):Tlv:= .mk 0 tag false false b true []
def nodeT (tag:Int) (nl:Bool) (kids:List Tlv):Tlv:= .mk 0 tag true true [] nl kids
def partT (p:Int×List Int):Tlv:=nodeT 17 false [nodeT 16 false [leafT 6 [85,4,p.1],leafT 12 p.2]]
def nameT (a:List (Int×List Int)):Tlv:=nodeT 16 a.isEmpty (a.map partT)
theorem depth_parts: ∀a:List (Int×List Int),Tlv.depthL (a.map partT)≤3
 |[]=>by simp[Tlv.depthL]
 |p::a=>by
  have:=depth_parts a
  have h2:(partT p).depth=3:=by simp[partT,nodeT,leafT,Tlv.depth,Tlv.depthL]
  simp only[List.map_cons,Tlv.depthL,h2]
  omega
theorem weight_parts: ∀a:List (Int×List Int),(∀p∈a,p.2.length≤64)→Tlv.weightL (a.map partT)≤71*a.length
 |[],_=>by simp[Tlv.weightL]
 |p::a,h=>by
  have h1:=weight_parts a fun q hq=>h q (List.mem_cons_of_mem _ hq)
  have h2:=h p (List.mem_cons_self ..)
  simp only[List.map_cons,Tlv.weightL,List.length_cons,partT,nodeT,leafT,Tlv.weight,List.length_nil]
  omega
def oidAlg:List Int:=[42,134,72,206,61,4,3,3]
def algT:Tlv:= .mk 0 16 true true [] false [.mk 0 6 false false oidAlg true []]
end Go.Proofs.YthpmkmogoejjpaaDoor
set_option linter.unusedSimpArgs false
set_option linter.unusedVariables false
namespace Go.Proofs.YthpmkmogoejjpaaDoor
open Go Go.VM
variable {G : GE}
def In64' (l:List Int):Prop:= ∀x∈l,0≤x∧x<18446744073709551616
def partIn (B:Nat) (p:Int×List Int):Prop:=(-9223372036854775808≤p.1∧p.1≤9223372036854775807)∧p.2.length≤B∧ ∀c∈p.2,0≤c∧c<256
structure Gn where
 nl:Bool
 s:List Int
 t:Int
def Gn.cells (g:Gn):List D:=[.nums .u8 g.nl g.s,.int .i64 g.t]
def Gn.ok (B:Nat) (g:Gn):Prop:=(g.nl=true→g.s=[])∧g.s.length≤B∧(∀c∈g.s,0≤c∧c<256)∧ -9223372036854775808≤g.t∧g.t≤9223372036854775807
def crlD (ni:Bool) (a:List (Int×List Int)) (this next:Int) (ng:Bool) (gs:List Gn) (nb:Bool) (b:List Int) (sg:List Int):List D:=
 [.sl 2 ni (rows a),.int .i64 this,.int .i64 next,.sl 2 ng (gs.map Gn.cells),.nums .u8 nb b]++sg.map (fun x=> .int .u64 x)
theorem part_fit {B f:Nat} {c:List D} (h:Fit (envG G).tt B f 113 c): ∃p:Int×List Int,c=[.int .i64 p.1,.str p.2]∧partIn B p:=by
 cases f with
 |zero=>exact h.elim
 |succ f=>
  simp only[Fit,tt113] at h
  obtain⟨hl,hp⟩:=h
  match c,hl,hp with
  |[d0,d1],_,hp=>
   obtain⟨_,q0,p0⟩:=hp (0,3) (by simp)
   obtain⟨_,q1,p1⟩:=hp (1,9) (by simp)
   cases q0;cases q1
   obtain⟨v0,r0,w0⟩:=xfit_int (G:=G) (k:= .i64) (tt3 _) rfl p0
   obtain⟨v1,r1,w1,w2⟩:=xfit_str (G:=G) (tt9 _) rfl p1
   simp at r0 r1
   subst r0 r1
   exact⟨⟨v0,v1⟩,rfl,xi64_of w0,w1,w2⟩
theorem name_fit {B f:Nat} {x:D} (h:Fit (envG G).tt B f 23 [x]): ∃(nl:Bool) (a:List (Int×List Int)),x= .sl 2 nl (rows a)∧(nl=true→a=[])∧a.length≤B∧ ∀p∈a,partIn B p:=by
 obtain⟨f',nl,xs,e,hn,hl,hx⟩:=xfit_sl (G:=G) (tt23 _) rfl (tt113 _) rfl h
 simp only[List.cons.injEq,and_true] at e
 subst e
 obtain⟨ds,rfl,hd⟩:=all_map (g:=fun p:Int×List Int=>[D.int .i64 p.1,D.str p.2]) (P:=partIn B) (l:=xs) fun c hc=>part_fit (G:=G) (hx c hc).2
 exact⟨nl,ds,rfl,fun h=>by simpa using hn h,by simpa using hl,hd⟩
theorem gone_fit {B f:Nat} {c:List D} (h:Fit (envG G).tt B f 43 c): ∃g:Gn,c=g.cells∧g.ok B:=by
 cases f with
 |zero=>exact h.elim
 |succ f=>
  simp only[Fit,tt43] at h
  obtain⟨hl,hp⟩:=h
  match c,hl,hp with
  |[d0,d1],_,hp=>
   obtain⟨_,q0,p0⟩:=hp (0,25) (by simp)
   obtain⟨_,q1,p1⟩:=hp (1,2) (by simp)
   cases q0;cases q1
   obtain⟨n2,x,r2,w2,w3,w4⟩:=xfit_nums (G:=G) (k:= .u8) (tt25 _) rfl (tt5 _) rfl p0
   obtain⟨v0,r0,w0⟩:=xfit_int (G:=G) (k:= .i64) (tt2 _) rfl p1
   simp at r0 r2
   subst r0 r2
   exact⟨⟨n2,x,v0⟩,rfl,w2,w3,xu8_of w4,(xi64_of w0).1,(xi64_of w0).2⟩
theorem gones_fit {B f:Nat} {x:D} (h:Fit (envG G).tt B f 24 [x]): ∃(nl:Bool) (gs:List Gn),x= .sl 2 nl (gs.map Gn.cells)∧(nl=true→gs=[])∧gs.length≤B∧ ∀g∈gs,g.ok B:=by
 obtain⟨f',nl,xs,e,hn,hl,hx⟩:=xfit_sl (G:=G) (tt24 _) rfl (tt43 _) rfl h
 simp only[List.cons.injEq,and_true] at e
 subst e
 obtain⟨ds,rfl,hd⟩:=all_map (g:=Gn.cells) (P:=Gn.ok B) (l:=xs) fun c hc=>gone_fit (G:=G) (hx c hc).2
 exact⟨nl,ds,rfl,fun h=>by simpa using hn h,by simpa using hl,hd⟩
theorem xu64_of {x:Int} (h:IntKind.u64.wrap x=x):0≤x∧x<18446744073709551616:=by
 have:=(wrap_iff .u64 x).1 h
 simp[IntKind.min,IntKind.max,IntKind.bits,IntKind.signed] at this
 omega
theorem six_fit {B f:Nat} {c:List D} (h:Fit (envG G).tt B f 28 c): ∃l:List Int,l.length=6∧c=l.map (fun x=> .int .u64 x)∧In64' l:=by
 cases f with
 |zero=>exact h.elim
 |succ f=>
  simp only[Fit,tt28] at h
  obtain⟨hl,j,hj,hq⟩:=h
  rw[tt26] at hj
  cases hj
  match c,hl,hq with
  |[d0,d1,d2,d3,d4,d5],_,hq=>
   obtain⟨v0,r0,w0⟩:=xfit_int (G:=G) (k:= .u64) (tt26 _) rfl (hq 0 (by omega))
   obtain⟨v1,r1,w1⟩:=xfit_int (G:=G) (k:= .u64) (tt26 _) rfl (hq 1 (by omega))
   obtain⟨v2,r2,w2⟩:=xfit_int (G:=G) (k:= .u64) (tt26 _) rfl (hq 2 (by omega))
   obtain⟨v3,r3,w3⟩:=xfit_int (G:=G) (k:= .u64) (tt26 _) rfl (hq 3 (by omega))
   obtain⟨v4,r4,w4⟩:=xfit_int (G:=G) (k:= .u64) (tt26 _) rfl (hq 4 (by omega))
   obtain⟨v5,r5,w5⟩:=xfit_int (G:=G) (k:= .u64) (tt26 _) rfl (hq 5 (by omega))
   simp at r0 r1 r2 r3 r4 r5
   subst r0 r1 r2 r3 r4 r5
   refine⟨[v0,v1,v2,v3,v4,v5],rfl,rfl,fun x hx=> ?_⟩
   simp only[List.mem_cons,List.not_mem_nil,or_false] at hx
   rcases hx with rfl|rfl|rfl|rfl|rfl|rfl
   ·exact xu64_of w0
   ·exact xu64_of w1
   ·exact xu64_of w2
   ·exact xu64_of w3
   ·exact xu64_of w4
   ·exact xu64_of w5
theorem sig_fit {B f:Nat} {c:List D} (h:Fit (envG G).tt B f 30 c): ∃l:List Int,l.length=12∧c=l.map (fun x=> .int .u64 x)∧In64' l:=by
 cases f with
 |zero=>exact h.elim
 |succ f=>
  simp only[Fit,tt30] at h
  obtain⟨hl,hp⟩:=h
  obtain⟨_,q0,p0⟩:=hp (0,28) (by simp)
  obtain⟨_,q1,p1⟩:=hp (6,28) (by simp)
  rw[tt28] at q0 q1
  cases q0;cases q1
  obtain⟨l1,k1,e1,i1⟩:=six_fit (G:=G) p0
  obtain⟨l2,k2,e2,i2⟩:=six_fit (G:=G) p1
  refine⟨l1++l2,by simp[k1,k2], ?_,fun x hx=> ?_⟩
  ·rw[List.map_append,←e1,←e2]
   simp only[List.drop_zero]
   have:(c.drop 6).take 6=c.drop 6:=List.take_of_length_le (by simp[hl])
   rw[this,List.take_append_drop]
  ·rcases List.mem_append.1 hx with hx|hx
   ·exact i1 x hx
   ·exact i2 x hx
theorem crl_fit {B f:Nat} {ds:List D} (h:Fit (envG G).tt B f 32 ds): ∃(ni:Bool) (a:List (Int×List Int)) (this next:Int) (ng:Bool) (gs:List Gn) (nb:Bool) (b sg:List Int),
  ds=crlD ni a this next ng gs nb b sg∧(ni=true→a=[])∧a.length≤B∧(∀p∈a,partIn B p)∧(-9223372036854775808≤this∧this≤9223372036854775807)∧(-9223372036854775808≤next∧next≤9223372036854775807)∧
  (ng=true→gs=[])∧gs.length≤B∧(∀g∈gs,g.ok B)∧(nb=true→b=[])∧b.length≤B∧(∀c∈b,0≤c∧c<256)∧sg.length=12∧In64' sg:=by
 cases f with
 |zero=>exact h.elim
 |succ f=>
  simp only[Fit,tt32] at h
  obtain⟨hl,hp⟩:=h
  match ds,hl,hp with
  |d0::d1::d2::d3::d4::rest,hl,hp=>
   obtain⟨_,q0,p0⟩:=hp (0,23) (by simp)
   obtain⟨_,q1,p1⟩:=hp (1,2) (by simp)
   obtain⟨_,q2,p2⟩:=hp (2,2) (by simp)
   obtain⟨_,q3,p3⟩:=hp (3,24) (by simp)
   obtain⟨_,q4,p4⟩:=hp (4,25) (by simp)
   obtain⟨_,q5,p5⟩:=hp (5,30) (by simp)
   rw[tt23] at q0
   rw[tt2] at q1 q2
   rw[tt24] at q3
   rw[tt25] at q4
   rw[tt30] at q5
   cases q0;cases q1;cases q2;cases q3;cases q4;cases q5
   obtain⟨ni,a,r0,w0,w1,w2⟩:=name_fit (G:=G) p0
   obtain⟨v1,r1,w3⟩:=xfit_int (G:=G) (k:= .i64) (tt2 _) rfl p1
   obtain⟨v2,r2,w4⟩:=xfit_int (G:=G) (k:= .i64) (tt2 _) rfl p2
   obtain⟨ng,gs,r3,w5,w6,w7⟩:=gones_fit (G:=G) p3
   obtain⟨nb,b,r4,w8,w9,w10⟩:=xfit_nums (G:=G) (k:= .u8) (tt25 _) rfl (tt5 _) rfl p4
   obtain⟨sg,s1,s2,s3⟩:=sig_fit (G:=G) p5
   simp at r1 r2 r4 hl
   subst r0 r1 r2 r3 r4
   have:(List.drop 5 (.sl 2 ni (rows a):: .int .i64 v1:: .int .i64 v2:: .sl 2 ng (gs.map Gn.cells):: .nums .u8 nb b::rest)).take 12=rest:=by
    simp only[List.drop_succ_cons,List.drop_zero]
    exact List.take_of_length_le (by omega)
   rw[this] at s2
   subst s2
   exact⟨ni,a,v1,v2,ng,gs,nb,b,sg,rfl,w0,w1,w2,xi64_of w3,xi64_of w4,w5,w6,w7,w8,w9,xu8_of w10,s1,s3⟩
end Go.Proofs.YthpmkmogoejjpaaDoor
set_option linter.unusedSimpArgs false
set_option linter.unusedVariables false
namespace Go.Proofs.YthpmkmogoejjpaaDoor
open Go Go.VM
variable {G : GE}
set_option maxRecDepth 100000
set_option maxHeartbeats 4000000
theorem gcells_at {l:List Gn} {i:Nat} {g:Gn} {t:List Gn} (h:l.drop i=g::t):(l.map Gn.cells)[i]? =some g.cells:=by
 rw[List.getElem?_map,at_of_drop h];rfl
def gIx (p:Gn→Bool):Nat→List Gn→Int
 |_,[]=> -1
 |i,g::l=>if p g then(i:Int) else gIx p (i+1) l
theorem gIx_any (p:Gn→Bool): ∀(l:List Gn) (i:Nat),decide (0≤gIx p i l)=l.any p
 |[],i=>rfl
 |g::l,i=>by
  simp only[gIx,List.any_cons]
  by_cases hp:p g=true
  ·simp[hp]
  ·have hp:p g=false:=by simpa using hp
   simp[hp,gIx_any p l]
theorem gIx_neg (p:Gn→Bool): ∀(l:List Gn) (i:Nat),¬(0≤gIx p i l)→gIx p i l= -1
 |[],i,_=>rfl
 |x::l,i,hi=>by
  simp only[gIx] at hi⊢
  split at hi
  ·omega
  ·rename_i hn;rw[if_neg hn];exact gIx_neg p l _ hi
theorem t_bEqual (F n:Nat) (na nb:Bool) (a b:List Int):callN (envG G) F (n+1) 42 [.d (.nums .u8 na a),.d (.nums .u8 nb b)]=some ⟨[.d (.bool (decide (a=b)))],[]⟩:=by
 rw[callN_run (fn:=Tryd.f42) rfl rfl rfl (by simp[Tryd.ntmps42])]
 generalize hC:(envG G).ctx 42 (callN (envG G) F (n)) (callP (envG G) F (n))=C
 have htt:C.tt=(envG G).tt:=by rw[←hC];rfl
 have hlin:C.lin=[]:=by rw[←hC];rfl
 have hreg:C.reg=reg42:=by rw[←hC];rfl
 have hcall:C.call=callN (envG G) F (n):=by rw[←hC];rfl
 have hcallP:C.callP=callP (envG G) F (n):=by rw[←hC];rfl
 by_cases h:a=b
 ·simp[htt,hlin,hreg,reg42,hcall,hcallP,h]
 ·simp[htt,hlin,hreg,reg42,hcall,hcallP,h]
def hasG (s:List Int) (g:Gn):Bool:=decide (g.s=s)
theorem t_hasC (F m:Nat) (nl:Bool) (s:List Int) (g:Gn):
  callP (envG G) F (m+2) 41 [.d (.agg g.cells),.ptr 0 0] [some (.cells false [.d (.nums .u8 nl s)])] []=some ⟨[.d (.bool (hasG s g))],[],[some (.cells false [.d (.nums .u8 nl s)])],[]⟩:=by
 have k:=t_bEqual (G:=G) F m g.nl nl g.s s
 unfold hasG Gn.cells
 rw[callP_run (fn:=Tryd.f41) rfl rfl rfl (by simp[Tryd.ntmps41])]
 generalize hC:(envG G).ctx 41 (callN (envG G) F (m+1)) (callP (envG G) F (m+1))=C
 have htt:C.tt=(envG G).tt:=by rw[←hC];rfl
 have hlin:C.lin=[]:=by rw[←hC];rfl
 have hreg:C.reg=reg41:=by rw[←hC];rfl
 have hcall:C.call=callN (envG G) F (m+1):=by rw[←hC];rfl
 have hcallP:C.callP=callP (envG G) F (m+1):=by rw[←hC];rfl
 simp[htt,hlin,hreg,reg41,hcall,hcallP,k]
theorem loop_gix {m g0:Nat} {C:Ctx} {F:Nat} (hC:(envG G).ctx 88 (callN (envG G) F (m)) (callP (envG G) F (m))=C) {c:Code} (hc:loopAt 2 Tryd.f88=some c) (b:D) (nl:Bool) (a:List Gn) (ha:a.length≤140737488355328) (p:Gn→Bool)
  (hg: ∀x∈a,callP (envG G) F m g0 [.d (.agg x.cells),.ptr 0 0] [some (.cells false [.d b])] []=some ⟨[.d (.bool (p x))],[],[some (.cells false [.d b])],[]⟩):
  ∀(us:List Gn) (i k:Nat) (st:St),a.drop i=us→i≤a.length→us.length<k→
   st.trim 1 [0,1,7,8]=⟨[(0,.d (.sl 2 nl (a.map Gn.cells))),(1,.fn g0 [.ptr 0 0]),(7,.d (.int .i64 a.length)),(8,.d (.int .i64 i))],[some (.cells false [.d b])],[]⟩→
   iter (ev C F c) 1 [0,1,7,8] [4] k st=if 0≤gIx p i us then some (.ret,⟨[(4,.d (.int .i64 (gIx p i us)))],[some (.cells false [.d b])],[]⟩) else some (.exit 0,⟨[],[some (.cells false [.d b])],[]⟩):=by
 have htt:C.tt=(envG G).tt:=by rw[←hC];rfl
 have hlin:C.lin=[]:=by rw[←hC];rfl
 have hreg:C.reg=reg88:=by rw[←hC];rfl
 have hcall:C.call=callN (envG G) F (m):=by rw[←hC];rfl
 have hcallP:C.callP=callP (envG G) F (m):=by rw[←hC];rfl
 have hlv_2:C.live 2=[0,1,7,8]:=by rw[←hC];rfl
 have hlv_100002:C.live 100002=[4]:=by rw[←hC];rfl
 have hev: ∀st,ev C F c st=ev C F ((loopAt 2 Tryd.f88).getD .skip) st:=fun st=>by rw[hc];rfl
 intro us
 induction us with
 |nil=>
  intro i k st hd hi hk hst
  obtain⟨k,rfl⟩: ∃j,k=j+1:=⟨k-1,by simp at hk;omega⟩
  have h0:=drop_nil hd
  have e0: ¬((i:Int)<(a.length:Int)):=by omega
  rw[iter_eq,hst,hev]
  simp[loopAt,findLoop,Tryd.f88,htt,hlin,hreg,reg88,hcall,hcallP,hlv_2,hlv_100002,e0,gIx]
 |cons x us ih=>
  intro i k st hd hi hk hst
  obtain⟨k,rfl⟩: ∃j,k=j+1:=⟨k-1,by simp at hk;omega⟩
  simp at hk
  obtain⟨hd2,hlt⟩:=drop_succ hd
  have ra:=gcells_at hd
  have hx:=hg x (List.mem_of_getElem? (at_of_drop hd))
  have e0:(i:Int)<(a.length:Int):=by omega
  have e1:(i:Int)+1≤9223372036854775807:=by omega
  have e3:(0:Int)≤(i:Int):=by omega
  have e2:(-9223372036854775808:Int)≤(i:Int)+1:=by omega
  have ih' :=fun st h=>ih (i+1) k st hd2 (by omega) hk h
  rw[iter_eq,hst,hev]
  simp only[Gn.cells] at ra hx
  cases hp:p x with
  |true=>
   rw[hp] at hx
   simp[loopAt,findLoop,Tryd.f88,htt,hlin,hreg,reg88,hcall,hcallP,hlv_2,hlv_100002,e0,e1,e2,e3,ra,hx,gIx,hp]
  |false=>
   rw[hp] at hx
   simp[loopAt,findLoop,Tryd.f88,htt,hlin,hreg,reg88,hcall,hcallP,hlv_2,hlv_100002,e0,e1,e2,e3,ra,hx,gIx,hp]
   exact ih' _ (by simp)
theorem t_gix (F m g0:Nat) (b:D) (nl:Bool) (a:List Gn) (ha:a.length≤140737488355328) (hF:a.length<F) (p:Gn→Bool)
  (hg: ∀x∈a,callP (envG G) F m g0 [.d (.agg x.cells),.ptr 0 0] [some (.cells false [.d b])] []=some ⟨[.d (.bool (p x))],[],[some (.cells false [.d b])],[]⟩):
  callP (envG G) F (m+1) 88 [.d (.sl 2 nl (a.map Gn.cells)),.fn g0 [.ptr 0 0]] [some (.cells false [.d b])] []=some ⟨[.d (.int .i64 (gIx p 0 a))],[],[some (.cells false [.d b])],[]⟩:=by
 rw[callP_run (fn:=Tryd.f88) rfl rfl rfl (by simp[Tryd.ntmps88])]
 generalize hC:(envG G).ctx 88 (callN (envG G) F (m)) (callP (envG G) F (m))=C
 have htt:C.tt=(envG G).tt:=by rw[←hC];rfl
 have hlin:C.lin=[]:=by rw[←hC];rfl
 have hreg:C.reg=reg88:=by rw[←hC];rfl
 have hcall:C.call=callN (envG G) F (m):=by rw[←hC];rfl
 have hcallP:C.callP=callP (envG G) F (m):=by rw[←hC];rfl
 have hlv_2:C.live 2=[0,1,7,8]:=by rw[←hC];rfl
 have hlv_100002:C.live 100002=[4]:=by rw[←hC];rfl
 have hL:=fun st h=>loop_gix (G:=G) hC rfl b nl a ha p hg a 0 F st rfl (by omega) hF h
 clear hC
 simp[htt,hlin,hreg,reg88,hcall,hcallP,hlv_2,hlv_100002,ev_loop]
 rw[hL _ (by simp)]
 split
 ·rename_i h;simp[htt,hlin,hreg,reg88,hcall,hcallP,hlv_2,hlv_100002]
 ·rename_i h
  simp[htt,hlin,hreg,reg88,hcall,hcallP,hlv_2,hlv_100002,gIx_neg p a 0 h]
theorem t_gcontains (F m g0:Nat) (b:D) (nl:Bool) (a:List Gn) (ha:a.length≤140737488355328) (hF:a.length<F) (p:Gn→Bool)
  (hg: ∀x∈a,callP (envG G) F m g0 [.d (.agg x.cells),.ptr 0 0] [some (.cells false [.d b])] []=some ⟨[.d (.bool (p x))],[],[some (.cells false [.d b])],[]⟩):
  callP (envG G) F (m+2) 40 [.d (.sl 2 nl (a.map Gn.cells)),.fn g0 [.ptr 0 0]] [some (.cells false [.d b])] []=some ⟨[.d (.bool (a.any p))],[],[some (.cells false [.d b])],[]⟩:=by
 have k1:=t_gix (G:=G) F m g0 b nl a ha hF p hg
 rw[←gIx_any p a 0]
 rw[callP_run (fn:=Tryd.f40) rfl rfl rfl (by simp[Tryd.ntmps40])]
 generalize hC:(envG G).ctx 40 (callN (envG G) F (m+1)) (callP (envG G) F (m+1))=C
 have htt:C.tt=(envG G).tt:=by rw[←hC];rfl
 have hlin:C.lin=[]:=by rw[←hC];rfl
 have hreg:C.reg=reg40:=by rw[←hC];rfl
 have hcall:C.call=callN (envG G) F (m+1):=by rw[←hC];rfl
 have hcallP:C.callP=callP (envG G) F (m+1):=by rw[←hC];rfl
 simp[htt,hlin,hreg,reg40,hcall,hcallP,k1]
def crlC (d0:D) (this next:Int) (ng:Bool) (gs:List Gn) (d4:D) (q0 q1 q2 q3 q4 q5 q6 q7 q8 q9 q10 q11:Int):List D:=
 [d0,.int .i64 this,.int .i64 next,.sl 2 ng (gs.map Gn.cells),d4,.int .u64 q0,.int .u64 q1,.int .u64 q2,.int .u64 q3,.int .u64 q4,.int .u64 q5,.int .u64 q6,.int .u64 q7,.int .u64 q8,.int .u64 q9,.int .u64 q10,.int .u64 q11]
theorem t_Has (F n:Nat) (ni nb:Bool) (a:List (List D)) (b:List Int) (this next:Int) (ng:Bool) (gs:List Gn) (hgs:gs.length≤140737488355328) (hF:gs.length<F) (q0 q1 q2 q3 q4 q5 q6 q7 q8 q9 q10 q11:Int) (nl:Bool) (s:List Int):
  callN (envG G) F (n+5) 12 [.d (.agg (crlC (.sl 2 ni a) this next ng gs (.nums .u8 nb b) q0 q1 q2 q3 q4 q5 q6 q7 q8 q9 q10 q11)),.d (.nums .u8 nl s)]=some ⟨[.d (.bool (gs.any (hasG s)))],[]⟩:=by
 have k:=t_gcontains (G:=G) F (n+2) 41 (.nums .u8 nl s) ng gs hgs hF (hasG s) (fun x _=>t_hasC (G:=G) F n nl s x)
 unfold crlC
 rw[callN_run (fn:=Tryd.f12) rfl rfl rfl (by simp[Tryd.ntmps12])]
 generalize hC:(envG G).ctx 12 (callN (envG G) F (n+4)) (callP (envG G) F (n+4))=C
 have htt:C.tt=(envG G).tt:=by rw[←hC];rfl
 have hlin:C.lin=[]:=by rw[←hC];rfl
 have hreg:C.reg=reg12:=by rw[←hC];rfl
 have hcall:C.call=callN (envG G) F (n+4):=by rw[←hC];rfl
 have hcallP:C.callP=callP (envG G) F (n+4):=by rw[←hC];rfl
 clear hC
 simp[htt,hlin,hreg,reg12,hcall,hcallP,k]
end Go.Proofs.YthpmkmogoejjpaaDoor
