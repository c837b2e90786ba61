/- The machine over values: from a reckoning to the call. -/
import Derived.Test.YthpmkmogoejjpaaGreatDoorVMO
import Derived.Below
import Derived.Test.YthpmkmogoejjpaaGreatDoorVMQ
set_option linter.unusedSimpArgs false
set_option linter.unusedVariables false
namespace Go.VM
open Go Go.RowKit
variable {P : Program} {E : Env}
def noOwn:Own:=fun _=>none
theorem below_of_ext {w w' :World} {own' :Own} (h:Ext w noOwn w' own'):Below w.heap.size w w' :=
 ⟨h.os,h.tape,h.output,h.size,fun k hk=>(h.free k hk rfl).1⟩
theorem wrap_of_wf {k:IntKind} {n:Int} (h:(Lit.int k n).wf=true):k.wrap n=n:=by
 simp only[Lit.wf,Bool.and_eq_true,decide_eq_true_eq] at h
 exact(wrap_iff k n).2 h
theorem byte_of_wf {n:Int} (h:(Lit.int .u8 n).wf=true):0≤n∧n<256:=by
 simp only[Lit.wf,Bool.and_eq_true,decide_eq_true_eq,IntKind.min,IntKind.max,IntKind.signed,IntKind.bits] at h
 simp at h
 omega
theorem rep_row {w:World} {k:IntKind} {b o len cap:Nat} {zs:List Int} (hl:len≤cap) (hm:cap≤maxLen) (hz:len≤zs.length)
  (hc: ∀i,i<zs.length→w.cell? (Addr.add ⟨b,o,none⟩ i)=some (.int k (zs.getD i 0))) (hw: ∀n∈zs,(Lit.int k n).wf=true):
  RepD w noOwn (.slice (some ⟨b,o,none⟩) len cap) (.nums k false (zs.take len)):=by
 refine .nums k b o len cap _ (by simp;omega) hl hm (fun i x hx=>⟨?_,fun ow n h=>(by cases h),rfl⟩) (fun i x hx=>wrap_of_wf (hw x (List.mem_of_mem_take (List.mem_of_getElem? hx))))
 rw[List.getElem?_take] at hx
 split at hx
 ·have hlt:=(List.getElem?_eq_some_iff.1 hx).1
  have:=hc i hlt
  rw[Addr.add_lit] at this
  rw[this]
  simp[List.getD,hx]
 ·cases hx
theorem rep_nil (w:World) (k:IntKind):RepD w noOwn (.slice none 0 0) (.nums k true []):= .numsNil k
end Go.VM
set_option linter.unusedSimpArgs false
set_option linter.unusedVariables false
namespace Go.VM
open Go
theorem trim_mk (l:List (Nat×V)) (bs:List (Option Blk)) (os:List Pl) (n:Nat) (live:List Nat):St.trim ⟨l,bs,os⟩ n live=⟨oldT n (keepT live l),(bs.take n).map (oldB n),dropPl (keepO n live) os⟩:=(rfl)
theorem keepT_nil (live:List Nat):keepT live []=[]:=(rfl)
theorem keepT_cons (live:List Nat) (t:Nat) (v:V) (l:List (Nat×V)):keepT live ((t,v)::l)=condE (hasNat t live) ((t,v)::keepT live l) (keepT live l):=by
 simp only[keepT]
 cases hasNat t live<;>rfl
theorem oldT_nil (n:Nat):oldT n []=[]:=(rfl)
theorem oldT_cons (n t:Nat) (v:V) (l:List (Nat×V)):oldT n ((t,v)::l)=(t,oldV n v)::oldT n l:=(rfl)
theorem oldV_d (n:Nat) (x:D):oldV n (.d x)= .d x:=(rfl)
theorem oldV_any (n:Nat):oldV n .any= .any:=(rfl)
theorem oldV_skip (n:Nat):oldV n .skip= .skip:=(rfl)
theorem oldV_gp (n g o:Nat):oldV n (.gp g o)= .gp g o:=(rfl)
theorem oldV_ptr (n i o:Nat):oldV n (.ptr i o)=if i<n then .ptr i o else .any:=by
 simp only[oldV]
 by_cases h:i<n
 ·rw[show Nat.blt i n=true by simpa[Nat.blt_eq] using h,if_pos h]
 ·have:Nat.blt i n=false:=by
   cases e:Nat.blt i n with
   |false=>rfl
   |true=>exact absurd (by simpa[Nat.blt_eq] using e) h
  rw[this,if_neg h]
theorem oldV_mu (n i o l c s:Nat):oldV n (.mu i o l c s)=if i<n then .mu i o l c s else .any:=by
 simp only[oldV]
 by_cases h:i<n
 ·rw[show Nat.blt i n=true by simpa[Nat.blt_eq] using h,if_pos h]
 ·have:Nat.blt i n=false:=by
   cases e:Nat.blt i n with
   |false=>rfl
   |true=>exact absurd (by simpa[Nat.blt_eq] using e) h
  rw[this,if_neg h]
theorem oldV_fn (n:Nat) (f:FuncId) (cs:List V):oldV n (.fn f cs)= .fn f (oldL n cs):=(rfl)
theorem oldV_tup (n:Nat) (cs:List V):oldV n (.tup cs)= .tup (oldL n cs):=(rfl)
theorem oldV_agg (n:Nat) (cs:List V):oldV n (.agg cs)= .agg (oldL n cs):=(rfl)
theorem oldL_nil (n:Nat):oldL n []=[]:=(rfl)
theorem oldL_cons (n:Nat) (v:V) (cs:List V):oldL n (v::cs)=oldV n v::oldL n cs:=(rfl)
theorem oldB_cells (n:Nat) (fz:Bool) (cs:List V):oldB n (some (.cells fz cs))=some (.cells fz (oldL n cs)):=(rfl)
theorem oldB_ints (n:Nat) (fz:Bool) (k:IntKind) (xs:List Int):oldB n (some (.ints fz k xs))=some (.ints fz k xs):=(rfl)
theorem keepO_t (n t:Nat) (live:List Nat):keepO n live (.t t)= !hasNat t live:=(rfl)
theorem keepO_c (n t j:Nat) (live:List Nat):keepO n live (.c t j)= !hasNat t live:=(rfl)
theorem keepO_b (n i j:Nat) (live:List Nat):keepO n live (.b i j)= !decide (i<n):=by
 simp only[keepO,nblt_dec]
def prO (live:List Nat):Pl→Bool
 | .t t=> !hasNat t live
 | .c t _=> !hasNat t live
 | .b _ _=>hasNat 2000000 live
theorem prune_mk (l:List (Nat×V)) (bs:List (Option Blk)) (os:List Pl) (live:List Nat):St.prune ⟨l,bs,os⟩ live=⟨keepT live l,bs,dropPl (prO live) os⟩:=by
 simp only[St.prune]
 congr 2
def roundE (k:St→Option (Ex×St)) (out:List Nat) (r:Option (Ex×St)):Option (Ex×St):=
 match r with
 |some (.normal,st)=>k st
 |some (e,st)=>some (e,st.prune out)
 |none=>none
theorem round_normal (k:St→Option (Ex×St)) (out:List Nat) (st:St):roundE k out (some (.normal,st))=k st:=(rfl)
theorem round_exit (k:St→Option (Ex×St)) (out:List Nat) (i:Nat) (st:St):roundE k out (some (.exit i,st))=some (.exit i,st.prune out):=(rfl)
theorem round_ret (k:St→Option (Ex×St)) (out:List Nat) (st:St):roundE k out (some (.ret,st))=some (.ret,st.prune out):=(rfl)
@[congr] theorem round_congr {k : St → Option (Ex × St)} {out : List Nat} {r r' : Option (Ex × St)} (h : idd r = r') : roundE k out r = roundE k out r' := by rw [← h]; rfl
theorem iter_eq (body:St→Option (Ex×St)) (n k:Nat) (live out:List Nat) (st:St):iter body n live out (k+1) st=roundE (fun st=>iter body n live out k st) out (body (st.trim n live)):=by
 rw[iter_succ]
 unfold roundE
 rcases body (st.trim n live) with _|⟨e,s⟩
 ·rfl
 ·cases e<;>rfl
theorem keyOf_region (i:Nat) (ops:Array Oper) (d:Bool):keyOf (.region i ops d)=i:=(rfl)
theorem keyOf_seq (a b:Code):keyOf (.seq a b)=keyOf a:=(rfl)
theorem keyOf_block (i:Nat) (a:Code):keyOf (.block i a)=keyOf a:=(rfl)
theorem keyOf_scope (a:Code):keyOf (.scope a)=keyOf a:=(rfl)
theorem keyOf_loop (a:Code):keyOf (.loop a)=keyOf a:=(rfl)
def srcK:Option TI→Bool
 |some i=>match i.k with| .slice _=>true| .str=>true|_=>false
 |none=>false
theorem isSrc_eq (C:Ctx) (u:Nat):isSrc C u=srcK (C.tt u):=by
 unfold isSrc srcK
 rcases C.tt u with _|⟨k,_,_,_,_,_⟩
 ·rfl
 ·cases k<;>rfl
theorem srcK_slice (e s b:Nat) (z:List D) (c q:Bool):srcK (some ⟨.slice e,s,b,z,c,q⟩)=true:=(rfl)
theorem srcK_str (s b:Nat) (z:List D) (c q:Bool):srcK (some ⟨.str,s,b,z,c,q⟩)=true:=(rfl)
theorem b_append (C:Ctx) (st:St) (dst:Option Nat) (x y:Operand) (t u:Nat):evBuiltin C st dst .append [x,y] [t,u]=bindV (evO C st t x) fun v=>bindV (evO C st u y) fun s=>
  condE (isSrc C u) (bindV (baseD C st x v) fun q=>bindV (evAppend C q.2.2 t q.1 q.2.1 s) fun r=>some (((q.2.2.disown (Pl.beq (plOf x))).put dst (.d r)).own dst true)) none:=by
 show (match evO C st t x,evO C st u y with
  |some v,some s=>(match isSrc C u with
   |false=>none
   |true=>(match baseD C st x v with
    |some (ow,v,st)=>(match evAppend C st t ow v s with
     |some r=>some (((st.disown (Pl.beq (plOf x))).put dst (.d r)).own dst true)
     |none=>none)
    |none=>none))
  |_,_=>none)=_
 rcases evO C st t x with _|v
 ·rfl
 ·rcases evO C st u y with _|s
  ·rfl
  ·show (match isSrc C u with
   |false=>none
   |true=>(match baseD C st x v with
    |some (ow,v,st)=>(match evAppend C st t ow v s with
     |some r=>some (((st.disown (Pl.beq (plOf x))).put dst (.d r)).own dst true)
     |none=>none)
    |none=>none))=condE (isSrc C u) _ _
   cases isSrc C u
   ·rfl
   ·show (match baseD C st x v with
    |some (ow,v,st)=>(match evAppend C st t ow v s with
     |some r=>some (((st.disown (Pl.beq (plOf x))).put dst (.d r)).own dst true)
     |none=>none)
    |none=>none)=bindV _ _
    rcases baseD C st x v with _|⟨ow,v',s'⟩
    ·rfl
    ·show (match evAppend C s' t ow v' s with
      |some r=>some (((s'.disown (Pl.beq (plOf x))).put dst (.d r)).own dst true)
      |none=>none)=bindV (evAppend C s' t ow v' s) _
     unfold bindV
     rcases evAppend C s' t ow v' s<;>rfl
theorem baseD_d (C:Ctx) (st:St) (x:Operand) (d:D):baseD C st x (.d d)=some (isTmp x && hasPl (plOf x) st.owns,.d d,st):=(rfl)
theorem baseD_mu (C:Ctx) (st:St) (x:Operand) (i off len cap sz:Nat):baseD C st x (.mu i off len cap sz)=condE (decide (len=cap)) (bindV (asD C st (.mu i off len cap sz)) fun r=>some (true,.d r.1,r.2)) none:=by
 show (match Nat.beq len cap with
  |true=>(match asD C st (.mu i off len cap sz) with
   |some (d,st)=>some (true,V.d d,st)
   |none=>none)
  |false=>none)=_
 rw[nbeq_dec]
 cases decide (len=cap)
 ·rfl
 ·show (match asD C st (.mu i off len cap sz) with
   |some (d,st)=>some (true,V.d d,st)
   |none=>none)=bindV _ _
  rcases asD C st (.mu i off len cap sz) with _|⟨d,s⟩<;>rfl
theorem append_nums (C:Ctx) (st:St) (t:Nat) (own:Bool) (k:IntKind) (nl:Bool) (xs:List Int) (s:V):evAppend C st t own (.d (.nums k nl xs)) s=
  bindV (C.tt t) fun i=>bindV (elemK i.k) fun e=>bindV (C.tt e) fun j=>condE ((own||nl) && decide (j.size=1)) (bindV (srcNums st k s) fun ys=>
   if(xs.length+ys.length)*j.bytes≤room∧xs.length+ys.length≤room then some (.nums k (nl && ys.isEmpty) (xs++ys)) else none) none:=by
 unfold evAppend
 rcases C.tt t with _|⟨tk,s1,b1,z1,c1,q1⟩
 ·rfl
 ·cases tk with
  |slice e=>
   show (match C.tt e with|some j=>_|none=>none)=bindV (C.tt e) _
   rcases C.tt e with _|j
   ·rfl
   ·show (bif (own||nl) && Nat.beq j.size 1 then _ else none)=condE ((own||nl) && decide (j.size=1)) _ none
    rw[←nbeq_dec]
    unfold condE
    congr 1
    show (match srcNums st k s with|some ys=>_|none=>none)=bindV (srcNums st k s) _
    rcases srcNums st k s with _|ys
    ·rfl
    ·show (bif decide ((xs.length+ys.length)*j.bytes≤room) && decide (xs.length+ys.length≤room) then _ else none)=if _ then _ else none
     by_cases h1:(xs.length+ys.length)*j.bytes≤room
     ·by_cases h2:xs.length+ys.length≤room
      ·simp[h1,h2]
      ·simp[h1,h2]
     ·simp[h1]
  |_=>rfl
theorem srcNums_nums (st:St) (k:IntKind) (nl:Bool) (xs:List Int):srcNums st k (.d (.nums k nl xs))=some xs:=by
 show (bif k==k then some xs else none)=some xs
 rw[kbeq];rfl
theorem srcNums_str (st:St) (l:List Int):srcNums st .u8 (.d (.str l))=some l:=(rfl)
theorem disown_mk (l:List (Nat×V)) (bs:List (Option Blk)) (os:List Pl) (f:Pl→Bool):St.disown ⟨l,bs,os⟩ f=⟨l,bs,dropPl f os⟩:=(rfl)
theorem plOf_tmp (t:Nat):plOf (.tmp t)= .t t:=(rfl)
theorem plOf_const (c:Value):plOf (.const c)= .t 0:=(rfl)
theorem isTmp_tmp (t:Nat):isTmp (.tmp t)=true:=(rfl)
theorem isTmp_const (c:Value):isTmp (.const c)=false:=(rfl)
attribute [simp] isSrc_eq srcK_slice srcK_str b_append baseD_d baseD_mu append_nums srcNums_nums srcNums_str disown_mk plOf_tmp plOf_const isTmp_tmp isTmp_const room
attribute [simp ↓] round_normal round_exit round_ret
attribute [simp] trim_mk keepT_nil keepT_cons oldT_nil oldT_cons oldV_d oldV_any oldV_skip oldV_gp oldV_ptr oldV_mu oldV_fn oldV_tup oldV_agg oldL_nil oldL_cons oldB_cells oldB_ints keepO_t keepO_c keepO_b prune_mk prO round_normal round_exit round_ret
 keyOf_region keyOf_seq keyOf_block keyOf_scope keyOf_loop
def findLoop (key:Nat):Code→Option Code
 | .loop c=>if keyOf c=key then some c else findLoop key c
 | .seq a b=>match findLoop key a with
  |some c=>some c
  |none=>findLoop key b
 | .cond _ a b=>match findLoop key a with
  |some c=>some c
  |none=>findLoop key b
 | .block _ c=>findLoop key c
 | .scope c=>findLoop key c
 |_=>none
def loopAt (key:Nat) (fn:Func):Option Code:=
 match fn.body with
 |some b=>findLoop key b
 |none=>none
end Go.VM
set_option linter.unusedSimpArgs false
set_option linter.unusedVariables false
namespace Go.VM
open Go
theorem ofInt_toNat {w:Nat} {x:Int} (h0:0≤x) (h1:x<2^w):(BitVec.ofInt w x).toNat=x.toNat:=by
 rw[BitVec.toNat_ofInt]
 congr 1
 exact Int.emod_eq_of_lt h0 (by exact_mod_cast h1)
theorem or_bits {v x:Int} (h0:0≤v) (h1:v<2^55) (h2:0≤x) (h3:x<256):
  ((BitVec.ofInt 64 (v*256)|||BitVec.ofInt 64 x).toNat:Int)=v*256+x:=by
 rw[BitVec.toNat_or,ofInt_toNat (by omega) (by omega),ofInt_toNat h2 (by omega)]
 obtain⟨n,rfl⟩:=Int.eq_ofNat_of_zero_le h0
 obtain⟨m,rfl⟩:=Int.eq_ofNat_of_zero_le h2
 have e1:((n:Int)*256).toNat=2^8*n:=by omega
 rw[e1,Int.toNat_natCast,←Nat.two_pow_add_eq_or_of_lt (by omega:m<2^8)]
 omega
theorem or_byte {v x:Int} (h0:0≤v) (h1:v<36028797018963968) (h2:0≤x) (h3:x<256):orI .i64 (v*256) x=v*256+x:=by
 have hq:orI .i64 (v*256) x=IntKind.i64.wrap ((BitVec.ofInt 64 (v*256)|||BitVec.ofInt 64 x).toNat:Int):=rfl
 rw[hq,or_bits h0 (by omega) h2 h3]
 exact wrap_ok (by simp;omega) (by simp;omega)
end Go.VM
