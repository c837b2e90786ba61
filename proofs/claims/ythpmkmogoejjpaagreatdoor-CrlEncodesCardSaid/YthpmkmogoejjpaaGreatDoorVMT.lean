/- The machine over values: a row of pairs, a number and a string each, that came in. -/
import Derived.Test.YthpmkmogoejjpaaGreatDoorVMR
import Derived.SizedLaws
import Derived.OpenShut
import Derived.Test.YthpmkmogoejjpaaGreatDoorVMS
set_option linter.unusedSimpArgs false
set_option linter.unusedVariables false
namespace Go.VM
open Go Go.RowKit
def pairCells (p:Int×List Int):List D:=[.int .i64 p.1,.str p.2]
variable {H : Type} {enc : TypeId × Value → H} {P : Program} {w : World} {base : Nat} {spare : Nat → Bool} {held : Bool}
end Go.VM
set_option linter.unusedSimpArgs false
set_option linter.unusedVariables false
namespace Go.VM
open Go
theorem append_sl (C:Ctx) (st:St) (t:Nat) (own:Bool) (sz:Nat) (nl:Bool) (xs:List (List D)) (s:V):evAppend C st t own (.d (.sl sz nl xs)) s=
  bindV (C.tt t) fun i=>bindV (elemK i.k) fun e=>bindV (C.tt e) fun j=>condE ((own||nl) && decide (j.size=sz) && decide (0<sz)) (bindV (srcSl st sz s) fun ys=>
   if(xs.length+ys.length)*j.bytes≤room∧xs.length+ys.length≤room then some (.sl sz (nl && ys.isEmpty) (xs++ys)) else none) none:=by
 unfold evAppend
 rcases C.tt t with _|⟨tk,s1,b1,z1,c1,q1⟩
 ·rfl
 ·cases tk with
  |slice e=>
   show (match C.tt e with|some j=>_|none=>none)=bindV (C.tt e) _
   rcases C.tt e with _|j
   ·rfl
   ·show (bif (own||nl) && Nat.beq j.size sz && Nat.blt 0 sz then _ else none)=condE ((own||nl) && decide (j.size=sz) && decide (0<sz)) _ none
    rw[←nbeq_dec,←nblt_dec]
    unfold condE
    congr 1
    show (match srcSl st sz s with|some ys=>_|none=>none)=bindV (srcSl st sz s) _
    rcases srcSl st sz s with _|ys
    ·rfl
    ·show (bif decide ((xs.length+ys.length)*j.bytes≤room) && decide (xs.length+ys.length≤room) then _ else none)=if _ then _ else none
     by_cases h1:(xs.length+ys.length)*j.bytes≤room
     ·by_cases h2:xs.length+ys.length≤room
      ·simp[-room,h1,h2]
      ·simp[-room,h1,h2]
     ·simp[-room,h1]
  |_=>rfl
theorem srcSl_sl (st:St) (sz:Nat) (nl:Bool) (xs:List (List D)):srcSl st sz (.d (.sl sz nl xs))=some xs:=by
 show (bif Nat.beq sz sz then some xs else none)=some xs
 simp
theorem argV_agg (C:Ctx) (st:St) (cs:List V) (h:refsL cs=[]):argV C st (.agg cs)=some (.agg cs,st):=by
 show (match refsL cs with|[]=>some (V.agg cs,st)|_=>none)=_
 rw[h]
theorem refs_any:refs .any=[]:=(rfl)
theorem refs_agg (cs:List V):refs (.agg cs)=refsL cs:=(rfl)
theorem callee_tmp (st:St) (t:Nat):calleeOf st (.tmp t)=(match look t st.tmps with|some (.fn g cs)=>some (g,cs)|_=>none):=(rfl)
theorem op_callT (C:Ctx) (slot:Option Nat) (dst:Option Tmp) (ty:TypeId) (pos:String) (af:Array Edge) (g:Option (Nat×Bool)) (st:St) (t:Nat) (as:Array Operand) (ts:Array TypeId):
  evOp C slot ⟨dst,.call {callee:= .value (.tmp t),args:=as,argTypes:=ts},ty,pos,af,g⟩ st=
   bindV (calleeOf st (.tmp t)) fun f=>condE (byPtr C st as.toList f.2 dst) (bindV (evArgsP C (rawHint C dst) st as.toList ts.toList) fun r=>handOver C (roomsIf (rawHint C dst) r.2 as.toList r.1) r.2 f.1 (r.1++f.2) dst)
    (bindV (evArgs C st as.toList ts.toList) fun r=>callWith C r.2 f.1 (r.1++f.2) dst):=by
 show (match calleeOf st (.tmp t) with
  |some (g,caps)=>(match byPtr C st as.toList caps dst with
    |false=>(match evArgs C st as.toList ts.toList with
     |some (vs,st)=>callWith C st g (vs++caps) dst
     |none=>none)
    |true=>(match evArgsP C (rawHint C dst) st as.toList ts.toList with
     |some (vs,st)=>handOver C (roomsIf (rawHint C dst) st as.toList vs) st g (vs++caps) dst
     |none=>none))
  |none=>none)=_
 rcases calleeOf st (.tmp t) with _|⟨f,caps⟩
 ·rfl
 ·simp only[bindV_some]
  unfold bindV condE
  cases byPtr C st as.toList caps dst with
  |false=>rcases evArgs C st as.toList ts.toList with _|⟨vs,s⟩<;>rfl
  |true=>rcases evArgsP C (rawHint C dst) st as.toList ts.toList with _|⟨vs,s⟩<;>rfl
theorem op_box (C:Ctx) (slot:Option Nat) (dst:Option Tmp) (ty:TypeId) (pos:String) (af:Array Edge) (g:Option (Nat×Bool)) (st:St) (e:TypeId) (x:Operand):
  evOp C slot ⟨dst,.box e x,ty,pos,af,g⟩ st=bindV (evO C st e x) fun v=>bindV (cellsV v) fun cs=>some ((st.new slot (.cells false cs)).2.put dst (.ptr (st.new slot (.cells false cs)).1 0)):=by
 show (match evO C st e x with
  |some v=>(match cellsV v with
   |some cs=>some ((st.new slot (.cells false cs)).2.put dst (.ptr (st.new slot (.cells false cs)).1 0))
   |none=>none)
  |none=>none)=_
 rcases evO C st e x with _|v
 ·rfl
 ·simp only[bindV_some]
  rcases cellsV v with _|cs<;>rfl
theorem new_none (l:List (Nat×V)) (bs:List (Option Blk)) (os:List Pl) (B:Blk):St.new ⟨l,bs,os⟩ none B=(bs.length,⟨l,bs++[some B],os⟩):=(rfl)
theorem new_some (l:List (Nat×V)) (bs:List (Option Blk)) (os:List Pl) (i:Nat) (B:Blk):St.new ⟨l,bs,os⟩ (some i) B=(i,⟨l,bs.set i (some B),os⟩):=(rfl)
theorem getB_mk (l:List (Nat×V)) (bs:List (Option Blk)) (os:List Pl) (i:Nat):getB ⟨l,bs,os⟩ i=(match bs[i]? with|some (some b)=>some b|_=>none):=(rfl)
theorem mkAgg_eq (cs:List V):mkAgg cs=(match allD cs with|some ds=> .d (.agg ds)|none=> .agg cs):=(rfl)
theorem ldB_cells (i:TI) (off:Nat) (fz:Bool) (cs:List V):ldB i off (some (.cells fz cs))=headV i (cs.drop off):=(rfl)
theorem ldB_ints (i:TI) (off:Nat) (fz:Bool) (k:IntKind) (xs:List Int):ldB i off (some (.ints fz k xs))=headI i k (xs.drop off):=(rfl)
def stB (st:St) (b off:Nat) (new:List V):Option Blk→Option St
 |some (.cells false cs)=>if off+new.length≤cs.length then
   some {tmps:=st.tmps,blocks:=st.blocks.set b (some (.cells false (splice off new cs))),owns:=dropPl (fun| .b j o=>Nat.beq b j && Nat.ble off o && Nat.blt o (off+new.length)|_=>false) st.owns} else none
 |some (.ints false k xs)=>bindV (allI k new) fun ns=>if off+ns.length≤xs.length then some {tmps:=st.tmps,blocks:=st.blocks.set b (some (.ints false k (splice off ns xs))),owns:=st.owns} else none
 |_=>none
theorem store_ptr (C:Ctx) (st:St) (t b off:Nat) (v:V):evStore C st t (.ptr b off) v=bindV (C.tt t) fun i=>bindV (cellsV v) fun new=>condE (decide (new.length=i.size)) (stB st b off new (getB st b)) none:=by
 unfold evStore
 rcases C.tt t with _|i
 ·rfl
 ·rcases cellsV v with _|new
  ·rfl
  ·simp only[bindV_some]
   rw[←nbeq_dec]
   cases Nat.beq new.length i.size with
   |false=>rfl
   |true=>
    simp only[cond_true,condE_true]
    rcases getB st b with _|B
    ·rfl
    ·cases B with
     |cells fz cs=>
      cases fz with
      |true=>rfl
      |false=>
       simp only[stB]
       by_cases h:off+new.length≤cs.length
       ·rw[if_pos h,show Nat.ble (off+new.length) cs.length=true from by simpa[Nat.ble_eq] using h];rfl
       ·rw[if_neg h]
        have:Nat.ble (off+new.length) cs.length=false:=by
         cases e:Nat.ble (off+new.length) cs.length with
         |false=>rfl
         |true=>exact absurd (by simpa[Nat.ble_eq] using e) h
        rw[this];rfl
     |ints fz k xs=>
      cases fz with
      |true=>rfl
      |false=>
       simp only[stB]
       rcases allI k new with _|ns
       ·rfl
       ·simp only[bindV_some]
        by_cases h:off+ns.length≤xs.length
        ·rw[if_pos h,show Nat.ble (off+ns.length) xs.length=true from by simpa[Nat.ble_eq] using h];rfl
        ·rw[if_neg h]
         have:Nat.ble (off+ns.length) xs.length=false:=by
          cases e:Nat.ble (off+ns.length) xs.length with
          |false=>rfl
          |true=>exact absurd (by simpa[Nat.ble_eq] using e) h
         rw[this];rfl
def bldK (C:Ctx) (st:St) (i:TI) (ps:List (Nat×Operand)):Option V:=
 match i.k with
 | .struct fs=>bindV (partsAt C st (fun j=>fs[j]?) ps) fun l=>bindV (fillV (i.zero.map .d) l) fun cs=>some (mkAgg cs)
 | .arr _ e=>bindV (C.tt e) fun j=>bindV (partsAt C st (fun n=>some (n*j.size,e)) ps) fun l=>bindV (fillV (i.zero.map .d) l) fun cs=>some (mkAgg cs)
 |_=>none
theorem build_eq (C:Ctx) (st:St) (t:Nat) (ps:List (Nat×Operand)):evBuild C st t ps=bindV (C.tt t) fun i=>bldK C st i ps:=by
 unfold evBuild
 rcases C.tt t with _|⟨k,s,b,z,c,q⟩
 ·rfl
 ·cases k with
  |struct fs=>
   simp only[bindV_some,bldK]
   rcases partsAt C st (fun j=>fs[j]?) ps with _|l
   ·rfl
   ·simp only[bindV_some]
    rcases fillV (z.map .d) l with _|cs<;>rfl
  |arr n e=>
   simp only[bindV_some,bldK]
   rcases C.tt e with _|j
   ·rfl
   ·simp only[bindV_some]
    rcases partsAt C st (fun n=>some (n*j.size,e)) ps with _|l
    ·rfl
    ·simp only[bindV_some]
     rcases fillV (z.map .d) l with _|cs<;>rfl
  |_=>rfl
theorem bldK_struct (C:Ctx) (st:St) (ps:List (Nat×Operand)) (fs:List (Nat×Nat)) (s b:Nat) (z:List D) (c q:Bool):
  bldK C st ⟨.struct fs,s,b,z,c,q⟩ ps=bindV (partsAt C st (fun j=>fs[j]?) ps) fun l=>bindV (fillV (z.map .d) l) fun cs=>some (mkAgg cs):=(rfl)
theorem bldK_arr (C:Ctx) (st:St) (ps:List (Nat×Operand)) (n e:Nat) (s b:Nat) (z:List D) (c q:Bool):
  bldK C st ⟨.arr n e,s,b,z,c,q⟩ ps=bindV (C.tt e) fun j=>bindV (partsAt C st (fun n=>some (n*j.size,e)) ps) fun l=>bindV (fillV (z.map .d) l) fun cs=>some (mkAgg cs):=(rfl)
theorem resV_cell (C:Ctx) (st:St) (a t:Nat) (rs:List ResultVar):resV C st (.cell a t::rs)=bindV (bindV (look a st.tmps) fun p=>evLoad C st t p) fun v=>bindV (argV C st v) fun r=>bindV (resV C r.2 rs) fun s=>some (r.1::s.1,s.2):=by
 show (match(match look a st.tmps with|some p=>evLoad C st t p|none=>none) with
  |some v=>(match argV C st v with
   |some (v,st)=>(match resV C st rs with
    |some (vs,st)=>some (v::vs,st)
    |none=>none)
   |none=>none)
  |none=>none)=_
 have e:(match look a st.tmps with|some p=>evLoad C st t p|none=>none)=bindV (look a st.tmps) fun p=>evLoad C st t p:=by
  rcases look a st.tmps with _|p<;>rfl
 rw[e]
 rcases bindV (look a st.tmps) fun p=>evLoad C st t p with _|v
 ·rfl
 ·simp only[bindV_some]
  rcases argV C st v with _|⟨u,s⟩
  ·rfl
  ·simp only[bindV_some]
   rcases resV C s rs with _|⟨us,s2⟩<;>rfl
def minS (st:St) (dst:Option Nat) (f:Int→Int→Int) (x y:Option V):Option St:=
 match x,y with
 |some (.d (.int k a)),some (.d (.int k' c))=>match k==k' with
  |true=>some (st.put dst (.d (.int k (f a c))))
  |false=>none
 |_,_=>none
theorem b_min (C:Ctx) (st:St) (dst:Option Nat) (x y:Operand) (ts:List Nat):evBuiltin C st dst .min [x,y] ts=minS st dst minI (evO C st 0 x) (evO C st 0 y):=(rfl)
theorem b_max (C:Ctx) (st:St) (dst:Option Nat) (x y:Operand) (ts:List Nat):evBuiltin C st dst .max [x,y] ts=minS st dst maxI (evO C st 0 x) (evO C st 0 y):=(rfl)
theorem minS_int (st:St) (dst:Option Nat) (f:Int→Int→Int) (k:IntKind) (a c:Int):minS st dst f (some (.d (.int k a))) (some (.d (.int k c)))=some (st.put dst (.d (.int k (f a c)))):=by
 show (match k==k with|true=>_|false=>none)=_
 rw[kbeq]
attribute [simp] b_min b_max minS_int
theorem refs_ptr (i o:Nat):refs (.ptr i o)=[i]:=(rfl)
theorem refs_mu (i o l c s:Nat):refs (.mu i o l c s)=[i]:=(rfl)
attribute [simp] refs_ptr refs_mu build_eq bldK_struct bldK_arr resV_cell ldB_cells ldB_ints stB store_ptr new_none new_some getB_mk mkAgg_eq op_box append_sl srcSl_sl argV_agg refs_any refs_agg callee_tmp op_callT
end Go.VM
set_option linter.unusedSimpArgs false
set_option linter.unusedVariables false
namespace Go.VM
open Go Go.RowKit
mutual
def bulk {H:Type}:DataW H→Nat
 | .lit (.string bytes)=>bytes.length+1
 | .lit _=>1
 | .nil=>1
 | .ptr d=>bulk d+1
 | .slice elems spare=>bulkAll elems+bulkAll spare+1
 | .agg parts=>bulkAll parts+1
 | .iface _ d=>bulk d+1
 | .map entries=>bulkEntries entries+1
 | .held _=>1
def bulkAll {H:Type}:List (DataW H)→Nat
 |[]=>0
 |d::r=>bulk d+bulkAll r
def bulkEntries {H:Type}:List (Lit×DataW H)→Nat
 |[]=>0
 |x::r=>bulkEntry x+bulkEntries r
def bulkEntry {H:Type}:Lit×DataW H→Nat
 |(.string bytes,d)=>bytes.length+bulk d+1
 |(_,d)=>bulk d+1
end
def Fit (tt:Nat→Option TI) (B:Nat):Nat→Nat→List D→Prop
 |0,_,_=>False
 |f+1,t,ds=>match tt t with
  |some i=>match i.k with
   | .bool=> ∃b,ds=[.bool b]
   | .int k=> ∃n,ds=[.int k n]∧k.wrap n=n
   | .str=> ∃l,ds=[.str l]∧l.length≤B∧ ∀c∈l,0≤c∧c<256
   | .slice e=>match tt e with
    |some j=>match j.k with
     | .int k=> ∃nl xs,ds=[.nums k nl xs]∧(nl=true→xs=[])∧xs.length≤B∧ ∀x∈xs,k.wrap x=x
     |_=> ∃nl xs,ds=[.sl j.size nl xs]∧(nl=true→xs=[])∧xs.length≤B∧ ∀c∈xs,c.length=j.size∧Fit tt B f e c
    |none=>False
   | .struct fs=>ds.length=i.size∧ ∀p∈fs,∃j,tt p.2=some j∧Fit tt B f p.2 ((ds.drop p.1).take j.size)
   | .arr n e=>ds.length=i.size∧ ∃j,tt e=some j∧ ∀q,q<n→Fit tt B f e ((ds.drop (q*j.size)).take j.size)
   |_=>False
  |none=>False
def tiles (tt:Nat→Option TI) (size:Nat):Nat→List (Nat×Nat)→Bool
 |off,[]=>Nat.beq off size
 |off,(o,t)::l=>Nat.beq o off && (match tt t with
  |some j=>tiles tt size (off+j.size) l
  |none=>false)
def closedB (tt:Nat→Option TI) (L:List Nat):Bool:=L.all fun t=>match tt t with
 |some i=>match i.k with
  | .bool=>true
  | .int _=>true
  | .str=>true
  | .slice e=>hasNat e L && (match tt e with|some j=>Nat.blt 0 j.size && Nat.blt 0 j.bytes|none=>false)
  | .struct fs=>tiles tt i.size 0 fs && fs.all fun p=>hasNat p.2 L
  | .arr n e=>hasNat e L && (match tt e with|some j=>Nat.beq i.size (n*j.size)|none=>false)
  |_=>false
 |none=>false
theorem tiles_le {tt:Nat→Option TI} {size:Nat}: ∀ {l:List (Nat×Nat)} {off:Nat},tiles tt size off l=true→off≤size∧ ∀p∈l,off≤p.1
 |[],off,h=>by
  simp only[tiles] at h
  have:=Nat.eq_of_beq_eq_true h
  exact⟨by omega,by simp⟩
 |(o,t)::l,off,h=>by
  simp only[tiles,Bool.and_eq_true] at h
  have h1:=Nat.eq_of_beq_eq_true h.1
  have h2:=h.2
  split at h2
  ·obtain⟨g1,g2⟩:=tiles_le h2
   refine⟨by omega,fun p hp=> ?_⟩
   rcases List.mem_cons.1 hp with rfl|hp
   ·simp only;omega
   ·have:=g2 p hp;omega
  ·cases h2
section
variable {H : Type} {enc : TypeId × Value → H} {P : Program} {w : World} {base : Nat} {spare : Nat → Bool} {held : Bool} {tt : Nat → Option TI}
def Good (w:World) (cs:List Value) (ds:List D):Prop:=
 ds.length=cs.length∧(∀(j:Nat) (v:Value) (d:D),cs[j]? =some v→ds[j]? =some d→RepD w noOwn v d)∧ ∀v∈cs,v.oneCell' =true
theorem Good.append {a b:List Value} {x y:List D} (h:Good w a x) (k:Good w b y):Good w (a++b) (x++y):=by
 obtain⟨g1,g2,g3⟩:=h
 obtain⟨k1,k2,k3⟩:=k
 refine⟨by simp[g1,k1],fun q v d hv hd=> ?_,fun v hv=> ?_⟩
 ·rw[List.getElem?_append] at hv hd
  rw[←g1] at hv
  split at hv
  ·rename_i hq;rw[if_pos hq] at hd;exact g2 q v d hv hd
  ·rename_i hq;rw[if_neg hq] at hd;exact k2 _ v d hv hd
 ·rcases List.mem_append.1 hv with hv|hv
  ·exact g3 v hv
  ·exact k3 v hv
structure Meas (P : Program) (B : Nat) (S : TypeId → DataW H → Prop) : Prop where
 str: ∀t b,S t (.lit (.string b))→b.length≤B
 sl: ∀t e es sp,P.underlying t=some (.slice e)→1≤P.bytesOf e→S t (.slice es sp)→es.length≤B∧ ∀d∈es,S e d
 st: ∀t fs parts,P.underlying t=some (.struct fs)→S t (.agg parts)→ ∀(q:Nat) fl d,fs[q]? =some fl→parts[q]? =some d→S fl.type d
 arr: ∀t n e parts,P.underlying t=some (.array n e)→S t (.agg parts)→ ∀d∈parts,S e d
theorem weights_mem_all {P:Program} {e:TypeId} {d:DataW H}: ∀ {l:List (DataW H)},d∈l→ ∀n∈d.weights P e,n∈DataW.weightsAll P e l
 |x::l,h,n,hn=>by
  simp only[DataW.weightsAll,List.mem_append]
  rcases List.mem_cons.1 h with rfl|h
  ·exact .inl hn
  ·exact .inr (weights_mem_all h n hn)
end
end Go.VM
