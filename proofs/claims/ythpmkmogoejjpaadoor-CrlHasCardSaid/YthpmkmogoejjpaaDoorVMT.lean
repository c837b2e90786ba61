/- The machine over values: a row of pairs, a number and a string each, that came in. -/
import Derived.Test.YthpmkmogoejjpaaDoorVMR
import Derived.SizedLaws
import Derived.OpenShut
import Derived.Test.YthpmkmogoejjpaaDoorVMS
set_option linter.unusedSimpArgs false
set_option linter.unusedVariables false
namespace Go.VM
open Go Go.RowKit
theorem rep_str {w:World} {own:Own} {s:ByteArray} (h:s.size≤maxLen):RepD w own (.string s) (.str (bytesI s)):=
 .str s _ rfl (by unfold bytesI;simpa using h)
theorem bytesI_bound (s:ByteArray): ∀x∈bytesI s,0≤x∧x<256:=by
 intro x hx
 unfold bytesI at hx
 rw[List.mem_map] at hx
 obtain⟨b,_,rfl⟩:=hx
 have:b.toNat<256:=by
  have:=b.toFin.isLt
  simpa using this
 omega
def pairCells (p:Int×List Int):List D:=[.int .i64 p.1,.str p.2]
variable {H : Type} {enc : TypeId × Value → H} {P : Program} {w : World} {base : Nat} {spare : Nat → Bool} {held : Bool}
theorem map_range_at {α:Type} {g:Nat→α} {len i:Nat} {c:α} (h:((List.range len).map g)[i]? =some c):i<len∧c=g i:=by
 rw[List.getElem?_map] at h
 rcases Nat.lt_or_ge i len with hi|hi
 ·rw[List.getElem?_range hi] at h
  simp at h
  exact⟨hi,h.symm⟩
 ·rw[List.getElem?_eq_none (by simpa using hi)] at h
  cases h
end Go.VM
set_option linter.unusedSimpArgs false
set_option linter.unusedVariables false
namespace Go.VM
open Go
theorem append_sl (C:Ctx) (st:St) (t:Nat) (own:Bool) (sz:Nat) (nl:Bool) (xs:List (List D)) (s:V):evAppend C st t own (.d (.sl sz nl xs)) s=
  bindV (C.tt t) fun i=>bindV (elemK i.k) fun e=>bindV (C.tt e) fun j=>condE ((own||nl) && decide (j.size=sz) && decide (0<sz)) (bindV (srcSl st sz s) fun ys=>
   if(xs.length+ys.length)*j.bytes≤room∧xs.length+ys.length≤room then some (.sl sz (nl && ys.isEmpty) (xs++ys)) else none) none:=by
 unfold evAppend
 rcases C.tt t with _|⟨tk,s1,b1,z1,c1,q1⟩
 ·rfl
 ·cases tk with
  |slice e=>
   show (match C.tt e with|some j=>_|none=>none)=bindV (C.tt e) _
   rcases C.tt e with _|j
   ·rfl
   ·show (bif (own||nl) && Nat.beq j.size sz && Nat.blt 0 sz then _ else none)=condE ((own||nl) && decide (j.size=sz) && decide (0<sz)) _ none
    rw[←nbeq_dec,←nblt_dec]
    unfold condE
    congr 1
    show (match srcSl st sz s with|some ys=>_|none=>none)=bindV (srcSl st sz s) _
    rcases srcSl st sz s with _|ys
    ·rfl
    ·show (bif decide ((xs.length+ys.length)*j.bytes≤room) && decide (xs.length+ys.length≤room) then _ else none)=if _ then _ else none
     by_cases h1:(xs.length+ys.length)*j.bytes≤room
     ·by_cases h2:xs.length+ys.length≤room
      ·simp[-room,h1,h2]
      ·simp[-room,h1,h2]
     ·simp[-room,h1]
  |_=>rfl
theorem srcSl_sl (st:St) (sz:Nat) (nl:Bool) (xs:List (List D)):srcSl st sz (.d (.sl sz nl xs))=some xs:=by
 show (bif Nat.beq sz sz then some xs else none)=some xs
 simp
theorem argV_agg (C:Ctx) (st:St) (cs:List V) (h:refsL cs=[]):argV C st (.agg cs)=some (.agg cs,st):=by
 show (match refsL cs with|[]=>some (V.agg cs,st)|_=>none)=_
 rw[h]
theorem refs_any:refs .any=[]:=(rfl)
theorem refs_agg (cs:List V):refs (.agg cs)=refsL cs:=(rfl)
theorem callee_tmp (st:St) (t:Nat):calleeOf st (.tmp t)=(match look t st.tmps with|some (.fn g cs)=>some (g,cs)|_=>none):=(rfl)
theorem op_callT (C:Ctx) (slot:Option Nat) (dst:Option Tmp) (ty:TypeId) (pos:String) (af:Array Edge) (g:Option (Nat×Bool)) (st:St) (t:Nat) (as:Array Operand) (ts:Array TypeId):
  evOp C slot ⟨dst,.call {callee:= .value (.tmp t),args:=as,argTypes:=ts},ty,pos,af,g⟩ st=
   bindV (calleeOf st (.tmp t)) fun f=>condE (byPtr C st as.toList f.2 dst) (bindV (evArgsP C (rawHint C dst) st as.toList ts.toList) fun r=>handOver C (roomsIf (rawHint C dst) r.2 as.toList r.1) r.2 f.1 (r.1++f.2) dst)
    (bindV (evArgs C st as.toList ts.toList) fun r=>callWith C r.2 f.1 (r.1++f.2) dst):=by
 show (match calleeOf st (.tmp t) with
  |some (g,caps)=>(match byPtr C st as.toList caps dst with
    |false=>(match evArgs C st as.toList ts.toList with
     |some (vs,st)=>callWith C st g (vs++caps) dst
     |none=>none)
    |true=>(match evArgsP C (rawHint C dst) st as.toList ts.toList with
     |some (vs,st)=>handOver C (roomsIf (rawHint C dst) st as.toList vs) st g (vs++caps) dst
     |none=>none))
  |none=>none)=_
 rcases calleeOf st (.tmp t) with _|⟨f,caps⟩
 ·rfl
 ·simp only[bindV_some]
  unfold bindV condE
  cases byPtr C st as.toList caps dst with
  |false=>rcases evArgs C st as.toList ts.toList with _|⟨vs,s⟩<;>rfl
  |true=>rcases evArgsP C (rawHint C dst) st as.toList ts.toList with _|⟨vs,s⟩<;>rfl
theorem op_box (C:Ctx) (slot:Option Nat) (dst:Option Tmp) (ty:TypeId) (pos:String) (af:Array Edge) (g:Option (Nat×Bool)) (st:St) (e:TypeId) (x:Operand):
  evOp C slot ⟨dst,.box e x,ty,pos,af,g⟩ st=bindV (evO C st e x) fun v=>bindV (cellsV v) fun cs=>some ((st.new slot (.cells false cs)).2.put dst (.ptr (st.new slot (.cells false cs)).1 0)):=by
 show (match evO C st e x with
  |some v=>(match cellsV v with
   |some cs=>some ((st.new slot (.cells false cs)).2.put dst (.ptr (st.new slot (.cells false cs)).1 0))
   |none=>none)
  |none=>none)=_
 rcases evO C st e x with _|v
 ·rfl
 ·simp only[bindV_some]
  rcases cellsV v with _|cs<;>rfl
theorem new_none (l:List (Nat×V)) (bs:List (Option Blk)) (os:List Pl) (B:Blk):St.new ⟨l,bs,os⟩ none B=(bs.length,⟨l,bs++[some B],os⟩):=(rfl)
theorem new_some (l:List (Nat×V)) (bs:List (Option Blk)) (os:List Pl) (i:Nat) (B:Blk):St.new ⟨l,bs,os⟩ (some i) B=(i,⟨l,bs.set i (some B),os⟩):=(rfl)
theorem getB_mk (l:List (Nat×V)) (bs:List (Option Blk)) (os:List Pl) (i:Nat):getB ⟨l,bs,os⟩ i=(match bs[i]? with|some (some b)=>some b|_=>none):=(rfl)
theorem mkAgg_eq (cs:List V):mkAgg cs=(match allD cs with|some ds=> .d (.agg ds)|none=> .agg cs):=(rfl)
theorem ldB_cells (i:TI) (off:Nat) (fz:Bool) (cs:List V):ldB i off (some (.cells fz cs))=headV i (cs.drop off):=(rfl)
theorem ldB_ints (i:TI) (off:Nat) (fz:Bool) (k:IntKind) (xs:List Int):ldB i off (some (.ints fz k xs))=headI i k (xs.drop off):=(rfl)
def stB (st:St) (b off:Nat) (new:List V):Option Blk→Option St
 |some (.cells false cs)=>if off+new.length≤cs.length then
   some {tmps:=st.tmps,blocks:=st.blocks.set b (some (.cells false (splice off new cs))),owns:=dropPl (fun| .b j o=>Nat.beq b j && Nat.ble off o && Nat.blt o (off+new.length)|_=>false) st.owns} else none
 |some (.ints false k xs)=>bindV (allI k new) fun ns=>if off+ns.length≤xs.length then some {tmps:=st.tmps,blocks:=st.blocks.set b (some (.ints false k (splice off ns xs))),owns:=st.owns} else none
 |_=>none
theorem store_ptr (C:Ctx) (st:St) (t b off:Nat) (v:V):evStore C st t (.ptr b off) v=bindV (C.tt t) fun i=>bindV (cellsV v) fun new=>condE (decide (new.length=i.size)) (stB st b off new (getB st b)) none:=by
 unfold evStore
 rcases C.tt t with _|i
 ·rfl
 ·rcases cellsV v with _|new
  ·rfl
  ·simp only[bindV_some]
   rw[←nbeq_dec]
   cases Nat.beq new.length i.size with
   |false=>rfl
   |true=>
    simp only[cond_true,condE_true]
    rcases getB st b with _|B
    ·rfl
    ·cases B with
     |cells fz cs=>
      cases fz with
      |true=>rfl
      |false=>
       simp only[stB]
       by_cases h:off+new.length≤cs.length
       ·rw[if_pos h,show Nat.ble (off+new.length) cs.length=true from by simpa[Nat.ble_eq] using h];rfl
       ·rw[if_neg h]
        have:Nat.ble (off+new.length) cs.length=false:=by
         cases e:Nat.ble (off+new.length) cs.length with
         |false=>rfl
         |true=>exact absurd (by simpa[Nat.ble_eq] using e) h
        rw[this];rfl
     |ints fz k xs=>
      cases fz with
      |true=>rfl
      |false=>
       simp only[stB]
       rcases allI k new with _|ns
       ·rfl
       ·simp only[bindV_some]
        by_cases h:off+ns.length≤xs.length
        ·rw[if_pos h,show Nat.ble (off+ns.length) xs.length=true from by simpa[Nat.ble_eq] using h];rfl
        ·rw[if_neg h]
         have:Nat.ble (off+ns.length) xs.length=false:=by
          cases e:Nat.ble (off+ns.length) xs.length with
          |false=>rfl
          |true=>exact absurd (by simpa[Nat.ble_eq] using e) h
         rw[this];rfl
def bldK (C:Ctx) (st:St) (i:TI) (ps:List (Nat×Operand)):Option V:=
 match i.k with
 | .struct fs=>bindV (partsAt C st (fun j=>fs[j]?) ps) fun l=>bindV (fillV (i.zero.map .d) l) fun cs=>some (mkAgg cs)
 | .arr _ e=>bindV (C.tt e) fun j=>bindV (partsAt C st (fun n=>some (n*j.size,e)) ps) fun l=>bindV (fillV (i.zero.map .d) l) fun cs=>some (mkAgg cs)
 |_=>none
theorem build_eq (C:Ctx) (st:St) (t:Nat) (ps:List (Nat×Operand)):evBuild C st t ps=bindV (C.tt t) fun i=>bldK C st i ps:=by
 unfold evBuild
 rcases C.tt t with _|⟨k,s,b,z,c,q⟩
 ·rfl
 ·cases k with
  |struct fs=>
   simp only[bindV_some,bldK]
   rcases partsAt C st (fun j=>fs[j]?) ps with _|l
   ·rfl
   ·simp only[bindV_some]
    rcases fillV (z.map .d) l with _|cs<;>rfl
  |arr n e=>
   simp only[bindV_some,bldK]
   rcases C.tt e with _|j
   ·rfl
   ·simp only[bindV_some]
    rcases partsAt C st (fun n=>some (n*j.size,e)) ps with _|l
    ·rfl
    ·simp only[bindV_some]
     rcases fillV (z.map .d) l with _|cs<;>rfl
  |_=>rfl
theorem bldK_struct (C:Ctx) (st:St) (ps:List (Nat×Operand)) (fs:List (Nat×Nat)) (s b:Nat) (z:List D) (c q:Bool):
  bldK C st ⟨.struct fs,s,b,z,c,q⟩ ps=bindV (partsAt C st (fun j=>fs[j]?) ps) fun l=>bindV (fillV (z.map .d) l) fun cs=>some (mkAgg cs):=(rfl)
theorem bldK_arr (C:Ctx) (st:St) (ps:List (Nat×Operand)) (n e:Nat) (s b:Nat) (z:List D) (c q:Bool):
  bldK C st ⟨.arr n e,s,b,z,c,q⟩ ps=bindV (C.tt e) fun j=>bindV (partsAt C st (fun n=>some (n*j.size,e)) ps) fun l=>bindV (fillV (z.map .d) l) fun cs=>some (mkAgg cs):=(rfl)
theorem resV_cell (C:Ctx) (st:St) (a t:Nat) (rs:List ResultVar):resV C st (.cell a t::rs)=bindV (bindV (look a st.tmps) fun p=>evLoad C st t p) fun v=>bindV (argV C st v) fun r=>bindV (resV C r.2 rs) fun s=>some (r.1::s.1,s.2):=by
 show (match(match look a st.tmps with|some p=>evLoad C st t p|none=>none) with
  |some v=>(match argV C st v with
   |some (v,st)=>(match resV C st rs with
    |some (vs,st)=>some (v::vs,st)
    |none=>none)
   |none=>none)
  |none=>none)=_
 have e:(match look a st.tmps with|some p=>evLoad C st t p|none=>none)=bindV (look a st.tmps) fun p=>evLoad C st t p:=by
  rcases look a st.tmps with _|p<;>rfl
 rw[e]
 rcases bindV (look a st.tmps) fun p=>evLoad C st t p with _|v
 ·rfl
 ·simp only[bindV_some]
  rcases argV C st v with _|⟨u,s⟩
  ·rfl
  ·simp only[bindV_some]
   rcases resV C s rs with _|⟨us,s2⟩<;>rfl
def minS (st:St) (dst:Option Nat) (f:Int→Int→Int) (x y:Option V):Option St:=
 match x,y with
 |some (.d (.int k a)),some (.d (.int k' c))=>match k==k' with
  |true=>some (st.put dst (.d (.int k (f a c))))
  |false=>none
 |_,_=>none
theorem b_min (C:Ctx) (st:St) (dst:Option Nat) (x y:Operand) (ts:List Nat):evBuiltin C st dst .min [x,y] ts=minS st dst minI (evO C st 0 x) (evO C st 0 y):=(rfl)
theorem b_max (C:Ctx) (st:St) (dst:Option Nat) (x y:Operand) (ts:List Nat):evBuiltin C st dst .max [x,y] ts=minS st dst maxI (evO C st 0 x) (evO C st 0 y):=(rfl)
theorem minS_int (st:St) (dst:Option Nat) (f:Int→Int→Int) (k:IntKind) (a c:Int):minS st dst f (some (.d (.int k a))) (some (.d (.int k c)))=some (st.put dst (.d (.int k (f a c)))):=by
 show (match k==k with|true=>_|false=>none)=_
 rw[kbeq]
attribute [simp] b_min b_max minS_int
theorem refs_ptr (i o:Nat):refs (.ptr i o)=[i]:=(rfl)
theorem refs_mu (i o l c s:Nat):refs (.mu i o l c s)=[i]:=(rfl)
attribute [simp] refs_ptr refs_mu build_eq bldK_struct bldK_arr resV_cell ldB_cells ldB_ints stB store_ptr new_none new_some getB_mk mkAgg_eq op_box append_sl srcSl_sl argV_agg refs_any refs_agg callee_tmp op_callT
end Go.VM
set_option linter.unusedSimpArgs false
set_option linter.unusedVariables false
namespace Go.VM
open Go Go.RowKit
mutual
def bulk {H:Type}:DataW H→Nat
 | .lit (.string bytes)=>bytes.length+1
 | .lit _=>1
 | .nil=>1
 | .ptr d=>bulk d+1
 | .slice elems spare=>bulkAll elems+bulkAll spare+1
 | .agg parts=>bulkAll parts+1
 | .iface _ d=>bulk d+1
 | .map entries=>bulkEntries entries+1
 | .held _=>1
def bulkAll {H:Type}:List (DataW H)→Nat
 |[]=>0
 |d::r=>bulk d+bulkAll r
def bulkEntries {H:Type}:List (Lit×DataW H)→Nat
 |[]=>0
 |x::r=>bulkEntry x+bulkEntries r
def bulkEntry {H:Type}:Lit×DataW H→Nat
 |(.string bytes,d)=>bytes.length+bulk d+1
 |(_,d)=>bulk d+1
end
def Fit (tt:Nat→Option TI) (B:Nat):Nat→Nat→List D→Prop
 |0,_,_=>False
 |f+1,t,ds=>match tt t with
  |some i=>match i.k with
   | .bool=> ∃b,ds=[.bool b]
   | .int k=> ∃n,ds=[.int k n]∧k.wrap n=n
   | .str=> ∃l,ds=[.str l]∧l.length≤B∧ ∀c∈l,0≤c∧c<256
   | .slice e=>match tt e with
    |some j=>match j.k with
     | .int k=> ∃nl xs,ds=[.nums k nl xs]∧(nl=true→xs=[])∧xs.length≤B∧ ∀x∈xs,k.wrap x=x
     |_=> ∃nl xs,ds=[.sl j.size nl xs]∧(nl=true→xs=[])∧xs.length≤B∧ ∀c∈xs,c.length=j.size∧Fit tt B f e c
    |none=>False
   | .struct fs=>ds.length=i.size∧ ∀p∈fs,∃j,tt p.2=some j∧Fit tt B f p.2 ((ds.drop p.1).take j.size)
   | .arr n e=>ds.length=i.size∧ ∃j,tt e=some j∧ ∀q,q<n→Fit tt B f e ((ds.drop (q*j.size)).take j.size)
   |_=>False
  |none=>False
def tiles (tt:Nat→Option TI) (size:Nat):Nat→List (Nat×Nat)→Bool
 |off,[]=>Nat.beq off size
 |off,(o,t)::l=>Nat.beq o off && (match tt t with
  |some j=>tiles tt size (off+j.size) l
  |none=>false)
def closedB (tt:Nat→Option TI) (L:List Nat):Bool:=L.all fun t=>match tt t with
 |some i=>match i.k with
  | .bool=>true
  | .int _=>true
  | .str=>true
  | .slice e=>hasNat e L && (match tt e with|some j=>Nat.blt 0 j.size && Nat.blt 0 j.bytes|none=>false)
  | .struct fs=>tiles tt i.size 0 fs && fs.all fun p=>hasNat p.2 L
  | .arr n e=>hasNat e L && (match tt e with|some j=>Nat.beq i.size (n*j.size)|none=>false)
  |_=>false
 |none=>false
theorem tiles_le {tt:Nat→Option TI} {size:Nat}: ∀ {l:List (Nat×Nat)} {off:Nat},tiles tt size off l=true→off≤size∧ ∀p∈l,off≤p.1
 |[],off,h=>by
  simp only[tiles] at h
  have:=Nat.eq_of_beq_eq_true h
  exact⟨by omega,by simp⟩
 |(o,t)::l,off,h=>by
  simp only[tiles,Bool.and_eq_true] at h
  have h1:=Nat.eq_of_beq_eq_true h.1
  have h2:=h.2
  split at h2
  ·obtain⟨g1,g2⟩:=tiles_le h2
   refine⟨by omega,fun p hp=> ?_⟩
   rcases List.mem_cons.1 hp with rfl|hp
   ·simp only;omega
   ·have:=g2 p hp;omega
  ·cases h2
theorem spot_of_cell {w:World} {a:Addr} {v:Value} (h:w.cell? a=some v):a.spot=none:=by
 unfold World.cell? at h
 split at h
 ·cases hs:a.spot with
  |none=>rfl
  |some s=>rw[hs] at h;simp at h
 ·cases h
theorem cellsOf_eq {P:Program} {tt:Nat→Option TI} (T:TOk P tt) {t:Nat} {i:TI} (h:tt t=some i):P.cellsOf t=i.size:=by
 obtain⟨info,d,z,r⟩:=T.get h
 simp[Program.cellsOf,r.hinfo,r.size]
section
variable {H : Type} {enc : TypeId × Value → H} {P : Program} {w : World} {base : Nat} {spare : Nat → Bool} {held : Bool} {tt : Nat → Option TI}
theorem trod_bool' {fuel t:Nat} {cs:List Value} {x:DataW H×List MemPlace} (ht:P.underlying t=some .bool) (h:DataW.trod enc P w base spare held fuel t cs=some x): ∃b,cs=[.bool b]:=by
 cases fuel with
 |zero=>simp[DataW.trod] at h
 |succ n=>
  unfold DataW.trod at h
  rw[ht] at h
  split at h<;>simp_all
def Good (w:World) (cs:List Value) (ds:List D):Prop:=
 ds.length=cs.length∧(∀(j:Nat) (v:Value) (d:D),cs[j]? =some v→ds[j]? =some d→RepD w noOwn v d)∧ ∀v∈cs,v.oneCell' =true
theorem Good.append {a b:List Value} {x y:List D} (h:Good w a x) (k:Good w b y):Good w (a++b) (x++y):=by
 obtain⟨g1,g2,g3⟩:=h
 obtain⟨k1,k2,k3⟩:=k
 refine⟨by simp[g1,k1],fun q v d hv hd=> ?_,fun v hv=> ?_⟩
 ·rw[List.getElem?_append] at hv hd
  rw[←g1] at hv
  split at hv
  ·rename_i hq;rw[if_pos hq] at hd;exact g2 q v d hv hd
  ·rename_i hq;rw[if_neg hq] at hd;exact k2 _ v d hv hd
 ·rcases List.mem_append.1 hv with hv|hv
  ·exact g3 v hv
  ·exact k3 v hv
structure Meas (P : Program) (B : Nat) (S : TypeId → DataW H → Prop) : Prop where
 str: ∀t b,S t (.lit (.string b))→b.length≤B
 sl: ∀t e es sp,P.underlying t=some (.slice e)→1≤P.bytesOf e→S t (.slice es sp)→es.length≤B∧ ∀d∈es,S e d
 st: ∀t fs parts,P.underlying t=some (.struct fs)→S t (.agg parts)→ ∀(q:Nat) fl d,fs[q]? =some fl→parts[q]? =some d→S fl.type d
 arr: ∀t n e parts,P.underlying t=some (.array n e)→S t (.agg parts)→ ∀d∈parts,S e d
theorem weights_mem_all {P:Program} {e:TypeId} {d:DataW H}: ∀ {l:List (DataW H)},d∈l→ ∀n∈d.weights P e,n∈DataW.weightsAll P e l
 |x::l,h,n,hn=>by
  simp only[DataW.weightsAll,List.mem_append]
  rcases List.mem_cons.1 h with rfl|h
  ·exact .inl hn
  ·exact .inr (weights_mem_all h n hn)
theorem meas_weight (P:Program) (R:Nat):Meas (H:=H) P R (fun t d=> ∀n∈d.weights P t,n≤R) where
 str t b h:=h _ (by simp[DataW.weights])
 sl t e es sp ht hb h:=by
  refine⟨?_,fun d hd n hn=>h n ?_⟩
  ·have:=h ((es.length+sp.length)*P.bytesOf e) (by simp[DataW.weights,ht])
   have h2:es.length*1≤(es.length+sp.length)*P.bytesOf e:=Nat.mul_le_mul (by omega) hb
   omega
  ·simp only[DataW.weights,ht,List.mem_cons,List.mem_append]
   exact .inr (.inl (weights_mem_all hd n hn))
 st t fs parts ht h q fl d hq hd n hn:=by
  refine h n ?_
  simp only[DataW.weights,ht]
  exact DataW.weights_mem_each (by rw[List.getElem?_map];have:fs.toList[q]? =some fl:=by simpa using hq
                                   rw[this];rfl) hd n hn
 arr t n e parts ht h d hd m hm:=by
  refine h m ?_
  simp only[DataW.weights,ht]
  exact weights_mem_all hd m hm
theorem open_meas (T:TOk P tt) {L:List Nat} (hL:closedB tt L=true) (B:Nat) {S:TypeId→DataW H→Prop} (M:Meas P B S): ∀(fuel t:Nat) (cs:List Value) (x:DataW H×List MemPlace),t∈L→DataW.trod enc P w base spare held fuel t cs=some x→S t x.1→
  ∃ds:List D,Good w cs ds∧Fit tt B fuel t ds:=by
 have hcl:=hL
 simp only[closedB,List.all_eq_true] at hcl
 intro fuel
 induction fuel with
 |zero=>intro t cs x ht h;simp[DataW.trod] at h
 |succ fuel ih=>
  intro t cs x ht h hB
  have hc:=hcl t ht
  cases hi:tt t with
  |none=>rw[hi] at hc;cases hc
  |some i=>
   rw[hi] at hc
   obtain⟨info,d,z,r⟩:=T.get hi
   simp only[Fit,hi]
   simp only at hc
   cases hk:i.k with
   |bool=>
    have hd:=r.bool hk;subst hd
    obtain⟨b,rfl⟩:=trod_bool' r.und h
    refine⟨[.bool b],⟨rfl,fun j v d hv hd=> ?_,by simp[Value.oneCell']⟩,b,rfl⟩
    cases j with
    |zero=>simp at hv hd;subst hv hd;exact .bool b
    |succ j=>simp at hv
   |int k=>
    have hd:=r.int hk;subst hd
    obtain⟨n,rfl,_,hwf⟩:=DataW.trod_int r.und h
    refine⟨[.int k n],⟨rfl,fun j v d hv hd=> ?_,by simp[Value.oneCell']⟩,n,rfl,wrap_of_wf hwf⟩
    cases j with
    |zero=>simp at hv hd;subst hv hd;exact .int k n (wrap_of_wf hwf)
    |succ j=>simp at hv
   |str=>
    have hd:=r.str hk;subst hd
    obtain⟨s,rfl,hx,hsz⟩:=DataW.trod_string r.und h
    refine⟨[.str (bytesI s)],⟨rfl,fun j v d hv hd=> ?_,by simp[Value.oneCell']⟩,_,rfl, ?_,bytesI_bound s⟩
    ·cases j with
     |zero=>simp at hv hd;subst hv hd;exact rep_str hsz
     |succ j=>simp at hv
    ·rw[hx] at hB
     have:=M.str _ _ hB
     unfold bytesI
     simpa only[List.length_map] using this
   |slice e=>
    rw[hk] at hc
    simp only[Bool.and_eq_true] at hc
    have he:e∈L:=hasNat_iff.1 hc.1
    have hd:=r.slice hk;subst hd
    cases hj:tt e with
    |none=>rw[hj] at hc;cases hc.2
    |some j=>
     rw[hj] at hc
     have hc2:=hc.2
     simp only[Bool.and_eq_true] at hc2
     have hpos:0<j.size:=by simpa[Nat.blt_eq] using hc2.1
     have hbyt:0<j.bytes:=by simpa[Nat.blt_eq] using hc2.2
     obtain⟨infoe,de,ze,re⟩:=T.get hj
     have hce:=cellsOf_eq T hj
     simp only
     rcases DataW.trod_slice r.und h with⟨rfl,_⟩|⟨a,len,cap,elems,rest,n,hfu,rfl,hx,hb,hle,hm,hlen,hel,_,_⟩
     ·--nil
      have one: ∀d,RepD w noOwn (.slice none 0 0) d→Good w [.slice none 0 0] [d]:=fun d hd=>⟨rfl,fun j' v d' hv hd' =>by
       cases j' with
       |zero=>simp at hv hd';subst hv hd';exact hd
       |succ j' =>simp at hv,by simp[Value.oneCell']⟩
      cases hjk:j.k with
      |int k=>simp only[hj,hjk];exact⟨[.nums k true []],one _ (.numsNil k),true,[],rfl,fun _=>rfl,by simp,by simp⟩
      |_=>simp only[hj,hjk];exact⟨[.sl j.size true []],one _ (.slNil _),true,[],rfl,fun _=>rfl,by simp,by simp⟩
     ·cases hfu
      have hBl:elems.length≤B∧ ∀y∈elems,S e y.1:=by
       rw[hx] at hB
       have hby:1≤P.bytesOf e:=by
        have:P.bytesOf e=j.bytes:=by simp[Program.bytesOf,re.hinfo,re.bytes]
        omega
       obtain⟨m1,m2⟩:=M.sl _ _ _ _ r.und hby hB
       refine⟨by simpa using m1,fun y hy=>m2 _ (List.mem_map_of_mem (f:=fun y:DataW H×List MemPlace=>y.1) hy)⟩
      have one: ∀d,RepD w noOwn (.slice (some a) len cap) d→Good w [.slice (some a) len cap] [d]:=fun d hd=>⟨rfl,fun j' v d' hv hd' =>by
       cases j' with
       |zero=>simp at hv hd';subst hv hd';exact hd
       |succ j' =>simp at hv,by simp[Value.oneCell']⟩
      have each: ∀q,q<len→ ∃(cq:List Value) (dq:List D),w.cells? base (a.add (q*j.size)) j.size=some cq∧Good w cq dq∧Fit tt B fuel e dq:=by
       intro q hq
       have hh:=hel q hq
       rw[hce] at hh
       obtain⟨y,hy⟩: ∃y,elems[q]? =some y:=⟨_,List.getElem?_eq_getElem (by omega)⟩
       rw[hy,Option.bind_eq_some_iff] at hh
       obtain⟨cq,hcq,ht'⟩:=hh
       obtain⟨dq,g1,g2⟩:=ih e cq y he ht' (hBl.2 y (List.mem_of_getElem? hy))
       exact⟨cq,dq,hcq,g1,g2⟩
      by_cases h0:len=0
      ·subst h0
       cases hjk:j.k with
       |int k=>simp only[hj,hjk];exact⟨[.nums k false []],one _ (.numsE k a cap hm),false,[],rfl,fun h=>(by cases h),by simp,by simp⟩
       |_=>simp only[hj,hjk];exact⟨[.sl j.size false []],one _ (.slE _ a cap hm),false,[],rfl,fun h=>(by cases h),by simp,by simp⟩
      ·have hsp:a.spot=none:=by
        obtain⟨cq,dq,h1,_⟩:=each 0 (by omega)
        obtain⟨_,h2,h3⟩:=World.cells?_some h1
        have h4:=h3 0 hpos
        cases e0:cq[0]? with
        |none=>rw[List.getElem?_eq_none_iff] at e0;omega
        |some v0=>
         rw[e0] at h4
         have:=spot_of_cell h4
         simpa[Addr.add] using this
       obtain⟨b,o,sp⟩:=a
       simp only at hsp
       subst hsp
       have each' : ∀q,q<len→ ∃(cq:List Value) (dq:List D),w.cells? base ⟨b,o+q*j.size,none⟩ j.size=some cq∧Good w cq dq∧Fit tt B fuel e dq:=fun q hq=>by
        have:=each q hq
        rw[Addr.add_lit] at this
        exact this
       have pick: ∃f:Nat→List Value×List D,∀q,q<len→w.cells? base ⟨b,o+q*j.size,none⟩ j.size=some (f q).1∧Good w (f q).1 (f q).2∧Fit tt B fuel e (f q).2:=by
        refine⟨fun q=>if hq:q<len then(Classical.choose (each' q hq),Classical.choose (Classical.choose_spec (each' q hq))) else([],[]),fun q hq=> ?_⟩
        simp only[hq,dite_true]
        exact Classical.choose_spec (Classical.choose_spec (each' q hq))
       obtain⟨f,hf⟩:=pick
       have cellAt: ∀q r (v:Value),q<len→(f q).1[r]? =some v→w.cell? ⟨b,o+q*j.size+r,none⟩=some v:=by
        intro q r v hq hv
        obtain⟨_,h2,h3⟩:=World.cells?_some (hf q hq).1
        have hr:r<j.size:=by rw[←h2];exact(List.getElem?_eq_some_iff.1 hv).1
        have:=h3 r hr
        rw[Addr.add_lit,hv] at this
        exact this
       have lenAt: ∀q,q<len→(f q).1.length=j.size∧(f q).2.length=j.size:=by
        intro q hq
        obtain⟨_,h2,_⟩:=World.cells?_some (hf q hq).1
        exact⟨h2,by rw[(hf q hq).2.1.1,h2]⟩
       have gen:(∀k,j.k≠ .int k)→ ∃ds:List D,Good w [.slice (some ⟨b,o,none⟩) len cap] ds∧ ∃nl xs,ds=[.sl j.size nl xs]∧(nl=true→xs=[])∧xs.length≤B∧ ∀c∈xs,c.length=j.size∧Fit tt B fuel e c:=by
        intro _
        refine⟨_,one (.sl j.size false ((List.range len).map fun q=>(f q).2)) ?_,false,_,rfl,fun h=>(by cases h),by simp;omega,fun c hcm=> ?_⟩
        ·refine .sl j.size b o len cap _ (fun q r=>(f q).1.getD r undef) (by simp) hle hm ?_ ?_ ?_
         ·intro q c hq
          obtain⟨hq1,rfl⟩:=map_range_at hq
          exact(lenAt q hq1).2
         ·intro q r c d hq hd
          obtain⟨hq1,rfl⟩:=map_range_at hq
          obtain⟨l1,l2⟩:=lenAt q hq1
          have hr:r<(f q).1.length:=by rw[l1,←l2];exact(List.getElem?_eq_some_iff.1 hd).1
          have e1:(f q).1[r]? =some (f q).1[r]:=List.getElem?_eq_getElem hr
          have e2:(f q).1.getD r undef=(f q).1[r]:=by rw[List.getD_eq_getElem?_getD,e1];rfl
          rw[e2]
          exact⟨cellAt q r _ hq1 e1,fun ow n h=>(by cases h),(hf q hq1).2.1.2.2 _ (List.getElem_mem hr)⟩
         ·intro q r c d hq hd
          obtain⟨hq1,rfl⟩:=map_range_at hq
          obtain⟨l1,l2⟩:=lenAt q hq1
          have hr:r<(f q).1.length:=by rw[l1,←l2];exact(List.getElem?_eq_some_iff.1 hd).1
          have e1:(f q).1[r]? =some (f q).1[r]:=List.getElem?_eq_getElem hr
          have e2:(f q).1.getD r undef=(f q).1[r]:=by rw[List.getD_eq_getElem?_getD,e1];rfl
          rw[e2]
          exact(hf q hq1).2.1.2.1 r _ d e1 hd
        ·rw[List.mem_map] at hcm
         obtain⟨q,hq,rfl⟩:=hcm
         have hq1:q<len:=by simpa using hq
         exact⟨(lenAt q hq1).2,(hf q hq1).2.2⟩
       cases hjk:j.k with
       |int k=>
        have hs1:j.size=1:=re.one hjk
        have isInt: ∀q,q<len→ ∃n,(f q).2=[.int k n]∧k.wrap n=n:=by
         intro q hq
         have hfit:=(hf q hq).2.2
         cases fuel with
         |zero=>exact hfit.elim
         |succ fuel=>
          simp only[Fit,hj,hjk] at hfit
          exact hfit
        have num: ∃g:Nat→Int,∀q,q<len→(f q).2=[.int k (g q)]∧k.wrap (g q)=g q:=by
         refine⟨fun q=>if hq:q<len then Classical.choose (isInt q hq) else 0,fun q hq=> ?_⟩
         simp only[hq,dite_true]
         exact Classical.choose_spec (isInt q hq)
        obtain⟨g,hg⟩:=num
        simp only[hj,hjk]
        refine⟨_,one (.nums k false ((List.range len).map g)) ?_,false,_,rfl,fun h=>(by cases h),by simp;omega,fun x hxm=> ?_⟩
        ·refine .nums k b o len cap _ (by simp) hle hm ?_ ?_
         ·intro q y hq
          obtain⟨hq1,rfl⟩:=map_range_at hq
          obtain⟨l1,l2⟩:=lenAt q hq1
          rw[hs1] at l1
          match hfq:(f q).1,l1 with
          |[v],_=>
           have hrep:=(hf q hq1).2.1.2.1 0 v (.int k (g q)) (by rw[hfq];rfl) (by rw[(hg q hq1).1];rfl)
           have hv:v= .int k (g q):=by cases hrep;rfl
           subst hv
           have:=cellAt q 0 _ hq1 (by rw[hfq];rfl)
           rw[hs1,Nat.mul_one,Nat.add_zero] at this
           exact⟨this,fun ow n h=>(by cases h),rfl⟩
         ·intro q y hq
          obtain⟨hq1,rfl⟩:=map_range_at hq
          exact(hg q hq1).2
        ·rw[List.mem_map] at hxm
         obtain⟨q,hq,rfl⟩:=hxm
         exact(hg q (by simpa using hq)).2
       |_=>simp only[hj,hjk];exact gen (fun k hk' =>by rw[hjk] at hk';cases hk')
   |struct gs=>
    rw[hk] at hc
    simp only[Bool.and_eq_true,List.all_eq_true] at hc
    obtain⟨fs,rfl,hgs,_⟩:=r.struct hk
    obtain⟨xs,n,hfu,hx,hl,hxl,hfield⟩:=DataW.trod_struct r.und h
    cases hfu
    rw[cellsOf_eq T hi] at hl
    rw[hx] at hB
    have part: ∀p∈gs,∀j,tt p.2=some j→ ∃dq,Good w ((cs.drop p.1).take j.size) dq∧Fit tt B fuel p.2 dq:=by
     intro p hp j hj
     rw[←hgs,List.mem_map] at hp
     obtain⟨fl,hfl,rfl⟩:=hp
     obtain⟨q,hq,hqe⟩:=List.mem_iff_getElem.1 hfl
     have hfq:fs[q]? =some fl:=by
      have h1:fs.toList[q]? =some fl:=by rw[List.getElem?_eq_getElem hq,hqe]
      simpa using h1
     have hh:=hfield q fl hfq
     simp only at hj⊢
     rw[cellsOf_eq T hj] at hh
     have hql:q<xs.length:=by rw[hxl];simpa using hq
     rw[List.getElem?_eq_getElem hql] at hh
     have hmem:fl.type∈L:=hasNat_iff.1 (hc.2 _ (by rw[←hgs];exact List.mem_map_of_mem hfl))
     exact ih fl.type _ _ hmem hh (M.st _ _ _ r.und hB q fl _ hfq (by rw[List.getElem?_map,List.getElem?_eq_getElem hql];rfl))
    have build: ∀(l:List (Nat×Nat)) (off:Nat),(∀p∈l,p∈gs)→tiles tt i.size off l=true→
      ∃ds,Good w (cs.drop off) ds∧ ∀p∈l,∃j,tt p.2=some j∧Fit tt B fuel p.2 ((ds.drop (p.1-off)).take j.size):=by
     intro l
     induction l with
     |nil=>
      intro off _ ht
      simp only[tiles] at ht
      have:=Nat.eq_of_beq_eq_true ht
      have hnil:cs.drop off=[]:=List.drop_eq_nil_of_le (by omega)
      rw[hnil]
      exact⟨[],⟨rfl,fun j v d h=>by simp at h,by simp⟩,by simp⟩
     |cons p l ihl=>
      intro off hmem ht
      obtain⟨po,pt⟩:=p
      simp only[tiles,Bool.and_eq_true] at ht
      have hpo:=Nat.eq_of_beq_eq_true ht.1
      subst hpo
      cases hj:tt pt with
      |none=>rw[hj] at ht;cases ht.2
      |some j=>
       rw[hj] at ht
       have ht2:=ht.2
       simp only at ht2
       obtain⟨d0,⟨g1,g2,g3⟩,g4⟩:=part (po,pt) (hmem _ (List.mem_cons_self ..)) j hj
       obtain⟨ds,⟨k1,k2,k3⟩,k4⟩:=ihl (po+j.size) (fun p hp=>hmem p (List.mem_cons_of_mem _ hp)) ht2
       simp only at g1 g2 g3 g4
       obtain⟨hle,hge⟩:=tiles_le ht2
       have l0:d0.length=j.size:=by rw[g1];simp;omega
       have hsplit:cs.drop po=(cs.drop po).take j.size++cs.drop (po+j.size):=by
        rw[←List.drop_drop,List.take_append_drop]
       refine⟨d0++ds,⟨?_, ?_, ?_⟩, ?_⟩
       ·rw[hsplit,List.length_append,List.length_append,g1,k1]
       ·intro q v d hv hd
        rw[hsplit,List.getElem?_append] at hv
        rw[List.getElem?_append] at hd
        have hlt:((cs.drop po).take j.size).length=d0.length:=g1.symm
        rw[hlt] at hv
        split at hv
        ·rename_i hq
         rw[if_pos hq] at hd
         exact g2 q v d hv hd
        ·rename_i hq
         rw[if_neg hq] at hd
         exact k2 _ v d hv hd
       ·intro v hv
        rw[hsplit,List.mem_append] at hv
        rcases hv with hv|hv
        ·exact g3 v hv
        ·exact k3 v hv
       ·intro p hp
        rcases List.mem_cons.1 hp with rfl|hp
        ·refine⟨j,hj, ?_⟩
         simp only[Nat.sub_self,List.drop_zero]
         rw[List.take_append_of_le_length (by omega),List.take_of_length_le (by omega)]
         exact g4
        ·obtain⟨j',hj',hfit⟩:=k4 p hp
         refine⟨j',hj', ?_⟩
         have:=hge p hp
         have e1:(d0++ds).drop (p.1-po)=ds.drop (p.1-(po+j.size)):=by
          rw[List.drop_append,List.drop_eq_nil_of_le (by omega),List.nil_append]
          congr 1;omega
         rw[e1];exact hfit
    obtain⟨ds,g1,g2⟩:=build gs 0 (fun p hp=>hp) hc.1
    rw[List.drop_zero] at g1
    refine⟨ds,g1,by rw[g1.1,hl],fun p hp=> ?_⟩
    obtain⟨j,h1,h2⟩:=g2 p hp
    exact⟨j,h1,by simpa using h2⟩
   |ptr=>rw[hk] at hc;cases hc
   |arr n e=>
    rw[hk] at hc
    simp only[Bool.and_eq_true] at hc
    have he:e∈L:=hasNat_iff.1 hc.1
    have hd:=r.arr hk;subst hd
    cases hj:tt e with
    |none=>rw[hj] at hc;cases hc.2
    |some j=>
     rw[hj] at hc
     have hsz:i.size=n*j.size:=Nat.eq_of_beq_eq_true hc.2
     obtain⟨xs,m,hfu,hx,hlen,hl,hel⟩:=DataW.trod_array r.und h
     cases hfu
     rw[cellsOf_eq T hi] at hlen
     rw[cellsOf_eq T hj] at hel
     rw[hx] at hB
     have hBx: ∀y∈xs,S e y.1:=fun y hy=>M.arr _ _ _ _ r.und hB _ (List.mem_map_of_mem (f:=fun y:DataW H×List MemPlace=>y.1) hy)
     have each: ∀q,q<n→ ∃dq,Good w ((cs.drop (q*j.size)).take j.size) dq∧Fit tt B fuel e dq:=fun q hq=>by
      have hh:=hel q hq
      have hql:q<xs.length:=by omega
      rw[List.getElem?_eq_getElem hql] at hh
      exact ih e _ _ he hh (hBx _ (List.getElem_mem hql))
     have build: ∀k,k≤n→ ∃ds,Good w (cs.take (k*j.size)) ds∧ds.length=k*j.size∧ ∀q,q<k→Fit tt B fuel e ((ds.drop (q*j.size)).take j.size):=by
      intro k
      induction k with
      |zero=>intro _;exact⟨[],⟨by simp,fun q v d hv=>by simp at hv,by simp⟩,by simp,fun q hq=>by omega⟩
      |succ k ihk=>
       intro hk1
       obtain⟨ds,g1,g2,g3⟩:=ihk (by omega)
       obtain⟨dq,k1,k2⟩:=each k (by omega)
       have hmul:(k+1)*j.size=k*j.size+j.size:=Nat.succ_mul k j.size
       have hle:(k+1)*j.size≤n*j.size:=Nat.mul_le_mul_right _ hk1
       have hdl:dq.length=j.size:=by
        rw[k1.1,List.length_take,List.length_drop]
        omega
       refine⟨ds++dq, ?_,by rw[List.length_append,g2,hdl,hmul],fun q hq=> ?_⟩
       ·rw[hmul,List.take_add]
        exact g1.append k1
       ·rcases Nat.lt_or_ge q k with h1|h1
        ·have hm2:(q+1)*j.size≤k*j.size:=Nat.mul_le_mul_right _ h1
         have hm3:(q+1)*j.size=q*j.size+j.size:=Nat.succ_mul q j.size
         rw[List.drop_append_of_le_length (by omega),List.take_append_of_le_length (by rw[List.length_drop];omega)]
         exact g3 q h1
        ·have hqk:q=k:=by omega
         subst hqk
         rw[←g2,List.drop_left,List.take_of_length_le (by omega)]
         exact k2
     obtain⟨ds,g1,g2,g3⟩:=build n (Nat.le_refl n)
     rw[←hsz,←hlen,List.take_length] at g1
     exact⟨ds,g1,by rw[g2,hsz],j,hj,g3⟩
   |iface=>rw[hk] at hc;cases hc
   |fn=>rw[hk] at hc;cases hc
   |other=>rw[hk] at hc;cases hc
end
end Go.VM
