/- What the law's Is hands back, told to the machine over values. -/
import Derived.Test.YthpmkmogoejjpaaGreatDoorSA
import Derived.Test.YthpmkmogoejjpaaGreatDoorSB
import Derived.Test.YthpmkmogoejjpaaGreatDoorVMU
import Derived.KernelRfl
set_option linter.unusedSimpArgs false
set_option linter.unusedVariables false
namespace Go.Proofs.YthpmkmogoejjpaaGreatDoor
open Go Go.VM Go.RowKit
def isX:List V→Option Ret
 |[.d e,.d (.int .i64 p),.d (.int .i64 c)]=>match e with
  | .nilifc=>some ⟨[.d (.bool false)],[]⟩
  | .ifc t x=>match Nat.beq t 39,x with
   |true,.int .i64 _=>some ⟨[.d (.bool false)],[]⟩
   |_,_=>match Nat.beq t 125,x with
    |true,.fp [.int .i64 q,.ifc u (.int .i64 k)]=>match Nat.beq u 39 with
     |true=>some ⟨[.d (.bool (decide (q=p∧k=c)))],[]⟩
     |false=>none
    |_,_=>none
  |_=>none
 |_=>none
def errT:List D:=[.ifc 271 (.agg [.rt 7 36])]
theorem errT_cell {w:World} {own:Own} (h:RepC w own 3 0 errT):w.cell? ⟨3,0,none⟩=some (.iface 271 (.agg #[.pointer (some ⟨7,36,none⟩)])):=by
 obtain⟨v,hc,hr⟩:=h 0 _ rfl
 have h1:=hc.cell
 simp only[Nat.add_zero] at h1
 rw[h1]
 cases hr with
 |ifc t v x hr=>
  cases hr with
  |agg arr cs hs h1 hr=>
   have h0:=hr 0 _ rfl
   have hs1:arr.size=1:=by simpa using hs
   generalize hv:arr.getD 0 undef=v0 at h0
   cases h0
   have:arr= #[.pointer (some ⟨7,36,none⟩)]:=by
    obtain⟨l⟩:=arr
    match l,hs1,hv with
    |[x],_,hv=>simp at hv;rw[hv]
   rw[this]
theorem three {l:Array Value} (h:l.size=3): ∃a b c,l= #[a,b,c]:=by
 obtain⟨l⟩:=l
 match l,h with
 |[a,b,c],_=>exact⟨a,b,c,rfl⟩
theorem is_sound {glob:Nat→Option (List D)} (hgl:glob 3=some errT) (args:List V) (r:Ret) (h:isX args=some r):Sound Tryz.prog glob 46 args r:=by
 have hf: ∃fn,Tryz.prog.funcs[(46:Nat)]? =some fn∧(fn.name== "runtime.NumGoroutine")=false∧fn.body.isNone=false:=⟨_,Tryz.func46,by kernel_rfl,by kernel_rfl⟩
 unfold isX at h
 split at h
 rotate_left
 ·cases h
 rename_i e p c
 have key: ∀ {cargs:Array Value} {w:World} {own:Own},Given w own cargs [.d e,.d (.int .i64 p),.d (.int .i64 c)]→ ∃v,cargs= #[v,.int .i64 p,.int .i64 c]∧RepD w own v e:=by
  intro cargs w own G
  obtain⟨v0,v1,v2,rfl⟩:=three (by simpa using G.size)
  have h1:=(inv_int (G.rep 1 _ rfl)).1
  have h2:=(inv_int (G.rep 2 _ rfl)).1
  simp at h1 h2
  subst h1;subst h2
  exact⟨v0,rfl,inv_d (G.rep 0 _ rfl)⟩
 split at h
 ·cases h
  refine sound_bool hf fun cargs w own G hg=> ?_
  obtain⟨v,rfl,hv⟩:=key G
  cases hv
  refine(is0_nil p c w).mono ?_
  rintro e w' ⟨rfl,rfl⟩
  exact⟨rfl,(Below.refl _ _).alloc (Nat.le_refl _) _⟩
 ·rename_i t x
  split at h
  ·rename_i hb
   cases h
   have ht:=Nat.eq_of_beq_eq_true hb
   subst ht
   refine sound_bool hf fun cargs w own G hg=> ?_
   obtain⟨v,rfl,hv⟩:=key G
   cases hv with
   |ifc t v x hv=>
    cases hv
    exact is0_code _ p c w (errT_cell (hg _ _ hgl))
  ·split at h
   ·rename_i hb
    split at h
    ·rename_i hb2
     cases h
     have ht:t=125:=Nat.eq_of_beq_eq_true (by assumption)
     have hu:=Nat.eq_of_beq_eq_true hb2
     subst ht;subst hu
     refine sound_bool hf fun cargs w own G hg=> ?_
     obtain⟨v,rfl,hv⟩:=key G
     cases hv with
     |ifc t v x hv=>
      obtain⟨b,o,rfl,hc⟩:=inv_fp (.d _ _ hv:RepV w own (fun _=>none) _ _)
      obtain⟨v0,c0,r0⟩:=hc 0 _ rfl
      obtain⟨v1,c1,r1⟩:=hc 1 _ rfl
      cases r0
      cases r1 with
      |ifc t v x r1=>
       cases r1
       exact is0_spot b o _ _ p c w (errT_cell (hg _ _ hgl)) (by simpa using c0.cell) c1.cell
    ·cases h
   ·cases h
 ·cases h
end Go.Proofs.YthpmkmogoejjpaaGreatDoor
set_option linter.unusedSimpArgs false
set_option linter.unusedVariables false
namespace Go.Proofs.YthpmkmogoejjpaaGreatDoor
open Go Go.VM Go.RowKit
def bw (x y c:Int):Int:=match decide (x<y+c) with|true=>1|false=>0
theorem bw_01 (x y c:Int):0≤bw x y c∧bw x y c≤1:=by unfold bw;split<;>omega
theorem bw_eq (x y c:Int):bw x y c=if x<y+c then 1 else 0:=by
 unfold bw
 by_cases h:x<y+c
 ·simp[h]
 ·simp[h]
def subX:List V→Option Ret
 |[.d (.int .u64 x),.d (.int .u64 y),.d (.int .u64 c)]=>match decide (0≤c),decide (c≤1) with
  |true,true=>some ⟨[.d (.int .u64 ((x-y-c) % 18446744073709551616)),.d (.int .u64 (bw x y c))],[]⟩
  |_,_=>none
 |_=>none
def subEntry:Array Value→Sem Value:=fun args=>do
 let (x,y,b)←Extern.MathBitsCarry.three "Sub64" args
 pure (Extern.MathBitsCarry.pair ((x+Extern.MathBitsCarry.m64-y-b) % Extern.MathBitsCarry.m64) (if x<y+b then 1 else 0))
theorem run_sub {P:Program} (x y c:Int) (hx:0≤x) (hy:0≤y) (hy2:y<18446744073709551616) (hc0:0≤c) (hc:c≤1) (w:World):
  (subEntry #[.int .u64 x,.int .u64 y,.int .u64 c]).run P w=
   .ok (.tuple #[.int .u64 ((x-y-c) % 18446744073709551616),.int .u64 (bw x y c)]) w:=by
 have key: ∀k:Nat,k≤1→(subEntry #[.int .u64 x,.int .u64 y,.int .u64 (k:Int)]).run P w=
   .ok (Extern.MathBitsCarry.pair ((x.toNat+Extern.MathBitsCarry.m64-y.toNat-k) % Extern.MathBitsCarry.m64) (if x.toNat<y.toNat+k then 1 else 0)) w:=by
  intro k hk
  have:k=0∨k=1:=by omega
  rcases this with rfl|rfl<;>rfl
 obtain⟨k,rfl⟩:=Int.eq_ofNat_of_zero_le hc0
 rw[key k (by omega)]
 obtain⟨X,rfl⟩:=Int.eq_ofNat_of_zero_le hx
 obtain⟨Y,rfl⟩:=Int.eq_ofNat_of_zero_le hy
 have e1:Int.ofNat ((X+2^64-Y-k) % 2^64)=((X:Int)-Y-k) % 18446744073709551616:=by
  obtain⟨t,ht⟩: ∃t,X+2^64=t+Y+k:=⟨X+2^64-Y-k,by omega⟩
  rw[show X+2^64-Y-k=t by omega]
  show ((t % 2^64:Nat):Int)=_
  omega
 have e2:Int.ofNat (if X<Y+k then 1 else 0)=bw (X:Int) Y k:=by
  unfold bw
  by_cases h:X<Y+k
  ·rw[if_pos h,decide_eq_true (by omega)];rfl
  ·rw[if_neg h,decide_eq_false (by omega)];rfl
 simp only[Extern.MathBitsCarry.pair,Extern.MathBitsCarry.m64,Int.toNat_natCast,e1,e2]
theorem u64_ok {x:Int} (h:IntKind.wrap .u64 x=x):0≤x∧x<18446744073709551616:=by
 have:IntKind.wrap .u64 x=x % 18446744073709551616:=by
  show Int.emod _ _=_
  rfl
 omega
theorem ok_u64 {x:Int} (h0:0≤x) (h1:x<18446744073709551616):IntKind.wrap .u64 x=x:=by
 have:IntKind.wrap .u64 x=x % 18446744073709551616:=by
  show Int.emod _ _=_
  rfl
 omega
theorem sub_sound {glob:Nat→Option (List D)} (args:List V) (r:Ret) (h:subX args=some r):Sound Tryz.prog glob 240 args r:=by
 unfold subX at h
 split at h
 rotate_left
 ·cases h
 rename_i x y c
 split at h
 rotate_left
 ·cases h
 rename_i h0 h1
 have h0:=of_decide_eq_true h0
 have h1:=of_decide_eq_true h1
 cases h
 refine .inr fun cargs w own G gl hp bl=> ?_
 obtain⟨v0,v1,v2,rfl⟩:=three (by simpa using G.size)
 have g0:=inv_int (G.rep 0 _ rfl)
 have g1:=inv_int (G.rep 1 _ rfl)
 have g2:=inv_int (G.rep 2 _ rfl)
 simp at g0 g1 g2
 obtain⟨rfl,g0⟩:=g0
 obtain⟨rfl,g1⟩:=g1
 obtain⟨rfl,g2⟩:=g2
 have:=u64_ok g0
 have:=u64_ok g1
 refine⟨.tuple #[.int .u64 ((x-y-c) % 18446744073709551616),.int .u64 (bw x y c)], ?_,Ext.refl w own,hp, #[.int .u64 ((x-y-c) % 18446744073709551616),.int .u64 (bw x y c)],⟨rfl,fun j z hz=> ?_⟩,rfl,fun j hj=>by simp at hj⟩
 ·rw[run_callFunc_extern Tryz.func240 (by kernel_rfl) (by kernel_rfl) (by kernel_rfl) (e:=subEntry) (by kernel_rfl),run_sub x y c (by omega) (by omega) (by omega) h0 h1]
  rfl
 ·rcases j with _|_|j
  ·simp at hz;subst hz;exact .d _ _ (.int _ _ (ok_u64 (by omega) (by omega)))
  ·simp at hz;subst hz
   refine .d _ _ (.int _ _ ?_)
   exact ok_u64 (bw_01 x y c).1 (by have:=(bw_01 x y c).2;omega)
  ·simp at hz
end Go.Proofs.YthpmkmogoejjpaaGreatDoor
set_option linter.unusedSimpArgs false
set_option linter.unusedVariables false
namespace Go.Proofs.YthpmkmogoejjpaaGreatDoor
open Go Go.VM
variable {G : GE}
set_option maxRecDepth 100000
set_option maxHeartbeats 4000000
def limbD (l:List Int):D:= .agg (l.map (.int .u64))
def byteOf (a:List Int) (j:Nat):Int:=IntKind.u8.wrap (IntKind.u64.wrap ((a.getD (j/8) 0).fdiv (2^(8*(j % 8)))))
def B6 (a:List Int):List Int:=(List.range 48).map fun j=>byteOf a (47-j)
theorem run_Bytes (a0 a1 a2 a3 a4 a5:Int):callN (envG G) 60 3 177 [.d (limbD [a0,a1,a2,a3,a4,a5])]=some ⟨[.d (.nums .u8 false (B6 [a0,a1,a2,a3,a4,a5]))],[0]⟩:=by kernel_rfl
end Go.Proofs.YthpmkmogoejjpaaGreatDoor
set_option linter.unusedSimpArgs false
set_option linter.unusedVariables false
namespace Go.Proofs.YthpmkmogoejjpaaGreatDoor
open Go Go.VM
variable {G : GE}
set_option maxRecDepth 100000
set_option maxHeartbeats 4000000
def SubB (G:GE):Prop:= ∀args,G.ext 240 args=subX args
theorem u_Sub64 (hB:SubB G) (F n:Nat) (x y c:Int) (h0:0≤c) (h1:c≤1):callN (envG G) F (n+1) 240 [.d (.int .u64 x),.d (.int .u64 y),.d (.int .u64 c)]=some ⟨[.d (.int .u64 ((x-y-c) % 18446744073709551616)),.d (.int .u64 (bw x y c))],[]⟩:=by
 rw[callN_succ]
 have:(envG G).ext 240 [.d (.int .u64 x),.d (.int .u64 y),.d (.int .u64 c)]=some ⟨[.d (.int .u64 ((x-y-c) % 18446744073709551616)),.d (.int .u64 (bw x y c))],[]⟩:=by
  show G.ext _ _=_
  rw[hB]
  simp[subX,h0,h1]
 rw[this]
def subC:List Int→List Int→Int→List Int×Int
 |a::l,b::m,c=>((a-b-c) % 18446744073709551616::(subC l m (bw a b c)).1,(subC l m (bw a b c)).2)
 |_,_,c=>([],c)
theorem t_lSub (hB:SubB G) (hn: ∀args,G.ext 194 args=none) (F n:Nat) (hF:8≤F) (a0 a1 a2 a3 a4 a5 b0 b1 b2 b3 b4 b5:Int):
  callN (envG G) F (n+2) 194 [.d (limbD [a0,a1,a2,a3,a4,a5]),.d (limbD [b0,b1,b2,b3,b4,b5])]=some ⟨[.d (limbD (subC [a0,a1,a2,a3,a4,a5] [b0,b1,b2,b3,b4,b5] 0).1),.d (.int .u64 (subC [a0,a1,a2,a3,a4,a5] [b0,b1,b2,b3,b4,b5] 0).2)],[]⟩:=by
 rw[callN_run (fn:=Tryz.f194) (hn _) rfl rfl (by simp[Tryz.ntmps194])]
 generalize hC:(envG G).ctx 194 (callN (envG G) F (n+1)) (callP (envG G) F (n+1))=C
 have htt:C.tt=(envG G).tt:=by rw[←hC];rfl
 have hlin:C.lin=[]:=by rw[←hC];rfl
 have hreg:C.reg=reg194:=by rw[←hC];rfl
 have hcall:C.call=callN (envG G) F (n+1):=by rw[←hC];rfl
 have hcallP:C.callP=callP (envG G) F (n+1):=by rw[←hC];rfl
 have hlv_4:C.live 4=[2,3,4,6,7,9]:=by rw[←hC];rfl
 have hlv_100004:C.live 100004=[4,5,6,7]:=by rw[←hC];rfl
 have hlv_200006:C.live 200006=[]:=by rw[←hC];rfl
 have hlv_250006:C.live 250006=[]:=by rw[←hC];rfl
 obtain⟨F,rfl⟩: ∃j,F=j+8:=⟨F-8,by omega⟩
 have k:=fun x y c h0 h1=>u_Sub64 (G:=G) hB (F+8) n x y c h0 h1
 have hc1:=bw_01 a0 b0 0
 have hc2:=bw_01 a1 b1 (bw a0 b0 0)
 have hc3:=bw_01 a2 b2 (bw a1 b1 (bw a0 b0 0))
 have hc4:=bw_01 a3 b3 (bw a2 b2 (bw a1 b1 (bw a0 b0 0)))
 have hc5:=bw_01 a4 b4 (bw a3 b3 (bw a2 b2 (bw a1 b1 (bw a0 b0 0))))
 have hc6:=bw_01 a5 b5 (bw a4 b4 (bw a3 b3 (bw a2 b2 (bw a1 b1 (bw a0 b0 0)))))
 have k0:=k a0 b0 0 (by omega) (by omega)
 have k1:=k a1 b1 _ hc1.1 hc1.2
 have k2:=k a2 b2 _ hc2.1 hc2.2
 have k3:=k a3 b3 _ hc3.1 hc3.2
 have k4:=k a4 b4 _ hc4.1 hc4.2
 have k5:=k a5 b5 _ hc5.1 hc5.2
 simp only[subC,limbD,List.map]
 generalize bw a5 b5 _=c6 at*
 generalize bw a4 b4 _=c5 at*
 generalize bw a3 b3 _=c4 at*
 generalize bw a2 b2 _=c3 at*
 generalize bw a1 b1 _=c2 at*
 generalize bw a0 b0 _=c1 at*
 simp[htt,hlin,hreg,reg194,hcall,hcallP,hlv_4,hlv_100004,hlv_200006,hlv_250006,ev_loop,iter_eq,k0,k1,k2,k3,k4,k5]
end Go.Proofs.YthpmkmogoejjpaaGreatDoor
namespace Go.Proofs.YthpmkmogoejjpaaGreatDoor
open Go Go.VM
set_option linter.unusedSimpArgs false
set_option linter.unusedVariables false
theorem at_of_drop {α:Type} {l:List α} {i:Nat} {p:α} {t:List α} (h:l.drop i=p::t):l[i]? =some p:=by
 have:(l.drop i)[0]? =some p:=by rw[h];rfl
 simpa using this
theorem drop_succ {α:Type} {l:List α} {i:Nat} {p:α} {t:List α} (h:l.drop i=p::t):l.drop (i+1)=t∧i<l.length:=by
 refine⟨by rw[←List.drop_drop,h];rfl, ?_⟩
 rcases Nat.lt_or_ge i l.length with h1|h1
 ·exact h1
 ·rw[List.drop_eq_nil_of_le h1] at h;cases h
theorem drop_nil {α:Type} {l:List α} {i:Nat} (h:l.drop i=[]):l.length≤i:=by simpa using h
inductive Tlv where
 |mk (cls tag:Int) (made bnil:Bool) (body:List Int) (knil:Bool) (kids:List Tlv)
mutual
def Tlv.cells:Tlv→List D
 | .mk c t m bn b kn ks=>[.int .i64 c,.int .i64 t,.bool m,.nums .u8 bn b,.sl 5 kn (Tlv.cellsL ks)]
def Tlv.cellsL:List Tlv→List (List D)
 |[]=>[]
 |x::l=>x.cells::Tlv.cellsL l
end
mutual
def Tlv.same:Tlv→Tlv→Bool
 | .mk c t m _ b _ ks,.mk c' t' m' _ b' _ ks' =>decide (c=c' ∧t=t' ∧m=m' ∧b=b' ∧ks.length=ks'.length) && Tlv.sameL ks ks'
def Tlv.sameL:List Tlv→List Tlv→Bool
 |x::l,y::l' =>x.same y && Tlv.sameL l l'
 |_,_=>true
end
mutual
def Tlv.depth:Tlv→Nat
 | .mk _ _ _ _ _ _ ks=>Tlv.depthL ks+1
def Tlv.depthL:List Tlv→Nat
 |[]=>0
 |x::l=>max x.depth (Tlv.depthL l)
end
mutual
def Tlv.fits (F:Nat):Tlv→Prop
 | .mk _ _ _ _ _ _ ks=>ks.length<F∧Tlv.fitsL F ks
def Tlv.fitsL (F:Nat):List Tlv→Prop
 |[]=>True
 |x::l=>x.fits F∧Tlv.fitsL F l
end
theorem cellsL_len: ∀l:List Tlv,(Tlv.cellsL l).length=l.length
 |[]=>rfl
 |x::l=>by simp[Tlv.cellsL,cellsL_len l]
theorem cellsL_map: ∀l:List Tlv,Tlv.cellsL l=l.map Tlv.cells
 |[]=>rfl
 |x::l=>by simp[Tlv.cellsL,cellsL_map l]
theorem cellsL_at {l:List Tlv} {i:Nat} {x:Tlv} {t:List Tlv} (h:l.drop i=x::t):(Tlv.cellsL l)[i]? =some x.cells:=by
 rw[cellsL_map,List.getElem?_map,at_of_drop h];rfl
theorem depthL_mem {x:Tlv}: ∀ {l:List Tlv},x∈l→x.depth≤Tlv.depthL l
 |y::l,h=>by
  simp only[Tlv.depthL]
  rcases List.mem_cons.1 h with rfl|h
  ·omega
  ·have:=depthL_mem h;omega
theorem fitsL_mem {F:Nat} {x:Tlv}: ∀ {l:List Tlv},Tlv.fitsL F l→x∈l→x.fits F
 |y::l,hf,h=>by
  simp only[Tlv.fitsL] at hf
  rcases List.mem_cons.1 h with rfl|h
  ·exact hf.1
  ·exact fitsL_mem hf.2 h
theorem cells_five (x:Tlv):x.cells.length=5:=by cases x;rfl
mutual
def Tlv.width (B:Nat):Tlv→Prop
 | .mk _ _ _ _ b _ ks=>b.length≤B∧ks.length≤B∧Tlv.widthL B ks
def Tlv.widthL (B:Nat):List Tlv→Prop
 |[]=>True
 |x::l=>x.width B∧Tlv.widthL B l
end
theorem widthL_mem {B:Nat} {x:Tlv}: ∀ {l:List Tlv},Tlv.widthL B l→x∈l→x.width B
 |y::l,hf,h=>by
  simp only[Tlv.widthL] at hf
  rcases List.mem_cons.1 h with rfl|h
  ·exact hf.1
  ·exact widthL_mem hf.2 h
mutual
def Tlv.light:Nat→Tlv→Int→Int
 |0,_,_=> -1
 |d+1,.mk _ _ _ _ b _ ks,left=>if left-1-b.length<0 then-1 else Tlv.lightL d ks (left-1-b.length)
def Tlv.lightL:Nat→List Tlv→Int→Int
 |_,[],left=>left
 |d,x::l,left=>if x.light d left<0 then-1 else Tlv.lightL d l (x.light d left)
end
mutual
theorem light_le: ∀(d:Nat) (x:Tlv) (left:Int),-1≤x.light d left∧(0≤left→x.light d left≤left)
 |0,x,left=>by simp[Tlv.light];omega
 |d+1,.mk _ _ _ _ b _ ks,left=>by
  simp only[Tlv.light]
  split
  ·omega
  ·have:=lightL_le d ks (left-1-b.length) (by omega)
   omega
theorem lightL_le: ∀(d:Nat) (l:List Tlv) (left:Int),0≤left→ -1≤Tlv.lightL d l left∧Tlv.lightL d l left≤left
 |d,[],left,h=>by simp[Tlv.lightL];omega
 |d,x::l,left,h=>by
  simp only[Tlv.lightL]
  have h1:=light_le d x left
  split
  ·omega
  ·have:=lightL_le d l (x.light d left) (by omega)
   omega
end
mutual
def Tlv.fine:Tlv→Bool
 | .mk c t m _ b _ ks=>decide (0≤c∧c≤3∧0≤t∧t≤30∧(m=true→b=[])∧(m=false→ks=[])) && Tlv.fineL ks
def Tlv.fineL:List Tlv→Bool
 |[]=>true
 |x::l=>x.fine && Tlv.fineL l
end
mutual
def Tlv.weight:Tlv→Nat
 | .mk _ _ _ _ b _ ks=>1+b.length+Tlv.weightL ks
def Tlv.weightL:List Tlv→Nat
 |[]=>0
 |x::l=>x.weight+Tlv.weightL l
end
mutual
theorem light_weight: ∀(d:Nat) (x:Tlv) (left:Int),0≤x.light d left→x.light d left=left-x.weight∧x.depth≤d
 |0,x,left,h=>by simp[Tlv.light] at h
 |d+1,.mk _ _ _ _ b _ ks,left,h=>by
  simp only[Tlv.light] at h⊢
  split at h
  ·omega
  ·rename_i hn
   rw[if_neg hn]
   have:=lightL_weight d ks (left-1-b.length) (by omega) h
   simp only[Tlv.weight,Tlv.depth]
   omega
theorem lightL_weight: ∀(d:Nat) (l:List Tlv) (left:Int),0≤left→0≤Tlv.lightL d l left→Tlv.lightL d l left=left-Tlv.weightL l∧Tlv.depthL l≤d
 |d,[],left,h0,h=>by simp[Tlv.lightL,Tlv.weightL,Tlv.depthL]
 |d,x::l,left,h0,h=>by
  simp only[Tlv.lightL] at h⊢
  split at h
  ·omega
  ·rename_i hn
   rw[if_neg hn]
   have h1:=light_weight d x left (by omega)
   have h2:=lightL_weight d l (x.light d left) (by omega) h
   simp only[Tlv.weightL,Tlv.depthL]
   omega
end
def sizeB (n:Nat):List Int:=if n<128 then [(n:Int)] else if n<256 then [129,(n:Int)] else if n<65536 then [130,(n:Int)/256,(n:Int) % 256] else [131,(n:Int)/65536,(n:Int)/256 % 256,(n:Int) % 256]
def headB (c t:Int) (m:Bool) (n:Nat):List Int:=(64*c+t+(if m then 32 else 0))::sizeB n
mutual
def Tlv.enc:Tlv→List Int
 | .mk c t m _ b _ ks=>headB c t m (b++Tlv.encL ks).length++(b++Tlv.encL ks)
def Tlv.encL:List Tlv→List Int
 |[]=>[]
 |x::l=>x.enc++Tlv.encL l
end
theorem sizeB_le (n:Nat):(sizeB n).length≤4:=by
 unfold sizeB;repeat' split
 all_goals simp
mutual
theorem enc_le: ∀x:Tlv,x.enc.length≤6*x.weight
 | .mk c t m _ b _ ks=>by
  have:=encL_le ks
  have h2:=sizeB_le (b++Tlv.encL ks).length
  simp only[Tlv.enc,Tlv.weight,headB,List.length_append,List.length_cons] at h2⊢
  omega
theorem encL_le: ∀l:List Tlv,(Tlv.encL l).length≤6*Tlv.weightL l
 |[]=>by simp[Tlv.encL]
 |x::l=>by
  have h1:=enc_le x
  have h2:=encL_le l
  simp only[Tlv.encL,Tlv.weightL,List.length_append]
  omega
end
theorem weightL_mem {x:Tlv}: ∀ {l:List Tlv},x∈l→x.weight≤Tlv.weightL l
 |y::l,h=>by
  simp only[Tlv.weightL]
  rcases List.mem_cons.1 h with rfl|h
  ·omega
  ·have:=weightL_mem h;omega
theorem fineL_mem {x:Tlv}: ∀ {l:List Tlv},Tlv.fineL l=true→x∈l→x.fine=true
 |y::l,hf,h=>by
  simp only[Tlv.fineL,Bool.and_eq_true] at hf
  rcases List.mem_cons.1 h with rfl|h
  ·exact hf.1
  ·exact fineL_mem hf.2 h
mutual
def Tlv.bytesOk:Tlv→Prop
 | .mk _ _ _ _ b _ ks=>(∀c∈b,0≤c∧c<256)∧Tlv.bytesOkL ks
def Tlv.bytesOkL:List Tlv→Prop
 |[]=>True
 |x::l=>x.bytesOk∧Tlv.bytesOkL l
end
theorem bytesOk_mem {x:Tlv}: ∀ {l:List Tlv},Tlv.bytesOkL l→x∈l→x.bytesOk
 |y::l,hf,h=>by
  simp only[Tlv.bytesOkL] at hf
  rcases List.mem_cons.1 h with rfl|h
  ·exact hf.1
  ·exact bytesOk_mem hf.2 h
mutual
theorem weight_width {W:Nat}: ∀x:Tlv,x.weight≤W→x.width W
 | .mk _ _ _ _ b _ ks,h=>by
  simp only[Tlv.weight] at h
  have:=weightL_len ks
  exact⟨by omega,by omega,weightL_width ks (by omega)⟩
theorem weightL_width {W:Nat}: ∀l:List Tlv,Tlv.weightL l≤W→Tlv.widthL W l
 |[],_=>trivial
 |x::l,h=>by
  simp only[Tlv.weightL] at h
  exact⟨weight_width x (by omega),weightL_width l (by omega)⟩
theorem weightL_len: ∀l:List Tlv,l.length≤Tlv.weightL l
 |[]=>by simp[Tlv.weightL]
 | .mk _ _ _ _ b _ ks::l=>by
  have:=weightL_len l
  simp only[Tlv.weightL,Tlv.weight,List.length_cons];omega
end
end Go.Proofs.YthpmkmogoejjpaaGreatDoor
namespace Go.Proofs.YthpmkmogoejjpaaGreatDoor
open Go Go.VM
set_option linter.unusedSimpArgs false
set_option linter.unusedVariables false
inductive Res (α : Type) where
 |ok (x:α)
 |bad (c:Int) (p:Int)
def byteAt (b:List Int) (i:Nat):Int:=(b[i]?).getD 0
def beN (b:List Int) (i:Nat):Nat→Int
 |0=>0
 |q+1=>256*beN b i q+byteAt b (i+q)
def lenB (b:List Int) (i stop:Nat):Res (Nat×Nat):=
 if stop≤i then .bad 6 i
 else if byteAt b i<128 then .ok ((byteAt b i).toNat,i+1)
 else if byteAt b i=128∨131<byteAt b i then .bad 7 i
 else if stop<i+1+(byteAt b i-128).toNat then .bad 6 i
 else if byteAt b (i+1)=0∨beN b (i+1) (byteAt b i-128).toNat<128 then .bad 7 i
 else .ok ((beN b (i+1) (byteAt b i-128).toNat).toNat,i+1+(byteAt b i-128).toNat)
def spanB (b:List Int) (i stop:Nat):Res (Nat×Nat):=
 match lenB b i stop with
 | .bad c p=> .bad c p
 | .ok (v,f)=>if stop<f+v then .bad 6 i else .ok (f,f+v)
def kidsB (g:Nat→Nat→Res (Tlv×Nat)):Nat→Nat→Nat→Res (List Tlv)
 |0,_,_=> .ok []
 |k+1,fr,to=>if fr<to then
   (match g fr to with
   | .bad c p=> .bad c p
   | .ok (x,nx)=>match kidsB g k nx to with
    | .bad c p=> .bad c p
    | .ok l=> .ok (x::l)) else .ok []
def elemB (b:List Int):Nat→Nat→Nat→Res (Tlv×Nat)
 |0,i,_=> .bad 9 i
 |d+1,i,stop=>
  if stop≤i then .bad 6 i
  else if byteAt b i % 32=31 then .bad 7 i
  else match spanB b (i+1) stop with
   | .bad c p=> .bad c p
   | .ok (fr,to)=>if byteAt b i/32 % 2=1 then
     (match kidsB (elemB b d) (to-fr) fr to with
     | .bad c p=> .bad c p
     | .ok l=> .ok (.mk (byteAt b i/64) (byteAt b i % 32) true true [] l.isEmpty l,to))
    else .ok (.mk (byteAt b i/64) (byteAt b i % 32) false false ((b.drop fr).take (to-fr)) true [],to)
def parseB (b:List Int):Res Tlv:=
 if 1048576<b.length then .bad 2 (-1)
 else match elemB b 16 0 b.length with
  | .bad c p=> .bad c p
  | .ok (x,e)=>if e<b.length then .bad 8 e else .ok x
theorem byteAt_drop {b:List Int} {i:Nat} (h:i<b.length):b.drop i=byteAt b i::b.drop (i+1):=by
 rw[List.drop_eq_getElem_cons h]
 simp[byteAt,h]
theorem byteAt_ok {b:List Int} (hb: ∀c∈b,0≤c∧c<256) (i:Nat):0≤byteAt b i∧byteAt b i<256:=by
 unfold byteAt
 cases h:b[i]? with
 |none=>simp
 |some x=>simpa using hb x (List.mem_of_getElem? h)
theorem beN_ok {b:List Int} (hb: ∀c∈b,0≤c∧c<256) (i:Nat): ∀q,0≤beN b i q∧beN b i q<256^q
 |0=>by simp[beN]
 |q+1=>by
  have h1:=beN_ok hb i q
  have h2:=byteAt_ok hb (i+q)
  simp only[beN,Int.pow_succ]
  omega
theorem lenB_ok {b:List Int} (hb: ∀c∈b,0≤c∧c<256) {i stop v f:Nat} (hs:stop≤b.length) (h:lenB b i stop= .ok (v,f)):
  b.drop i=sizeB v++b.drop f∧f≤stop∧f=i+(sizeB v).length∧v<16777216:=by
 unfold lenB at h
 have g0:=byteAt_ok hb i
 have g1:=byteAt_ok hb (i+1)
 have g2:=byteAt_ok hb (i+2)
 have g3:=byteAt_ok hb (i+3)
 split at h
 ·cases h
 rename_i h1
 split at h
 ·rename_i h2
  injection h with h;injection h with hv hf
  subst hf
  have e:sizeB v=[byteAt b i]:=by unfold sizeB;rw[if_pos (by omega)];congr 1;omega
  rw[e]
  exact⟨byteAt_drop (by omega),by omega,rfl,by omega⟩
 rename_i h2
 split at h
 ·cases h
 rename_i h3
 split at h
 ·cases h
 rename_i h4
 split at h
 ·cases h
 rename_i h5
 injection h with h;injection h with hv hf
 have d0:=byteAt_drop (b:=b) (i:=i) (by omega)
 have hq:byteAt b i=129∨byteAt b i=130∨byteAt b i=131:=by omega
 rcases hq with hq|hq|hq
 ·rw[hq] at hv hf h4 h5
  simp[beN,Nat.add_assoc] at hv hf h4 h5
  have d1:=byteAt_drop (b:=b) (i:=i+1) (by omega)
  have e:sizeB v=[byteAt b i,byteAt b (i+1)]:=by
   unfold sizeB;rw[if_neg (by omega),if_pos (by omega),hq];congr 2;omega
  rw[e,d0,d1]
  subst hf
  exact⟨rfl,by omega,rfl,by omega⟩
 ·rw[hq] at hv hf h4 h5
  simp[beN,Nat.add_assoc] at hv hf h4 h5
  have d1:=byteAt_drop (b:=b) (i:=i+1) (by omega)
  have d2:=byteAt_drop (b:=b) (i:=i+2) (by omega)
  have e:sizeB v=[byteAt b i,byteAt b (i+1),byteAt b (i+2)]:=by
   unfold sizeB;rw[if_neg (by omega),if_neg (by omega),if_pos (by omega),hq]
   have e1:(v:Int)/256=byteAt b (i+1):=by omega
   have e2:(v:Int) % 256=byteAt b (i+2):=by omega
   rw[e1,e2]
  rw[e,d0,d1,d2]
  subst hf
  exact⟨rfl,by omega,rfl,by omega⟩
 ·rw[hq] at hv hf h4 h5
  simp[beN,Nat.add_assoc] at hv hf h4 h5
  have d1:=byteAt_drop (b:=b) (i:=i+1) (by omega)
  have d2:=byteAt_drop (b:=b) (i:=i+2) (by omega)
  have d3:=byteAt_drop (b:=b) (i:=i+3) (by omega)
  have e:sizeB v=[byteAt b i,byteAt b (i+1),byteAt b (i+2),byteAt b (i+3)]:=by
   unfold sizeB;rw[if_neg (by omega),if_neg (by omega),if_neg (by omega),hq]
   have e1:(v:Int)/65536=byteAt b (i+1):=by omega
   have e2:(v:Int)/256 % 256=byteAt b (i+2):=by omega
   have e3:(v:Int) % 256=byteAt b (i+3):=by omega
   rw[e1,e2,e3]
  rw[e,d0,d1,d2,d3]
  subst hf
  exact⟨rfl,by omega,rfl,by omega⟩
theorem spanB_ok {b:List Int} (hb: ∀c∈b,0≤c∧c<256) {i stop fr to:Nat} (hs:stop≤b.length) (h:spanB b i stop= .ok (fr,to)):
  b.drop i=sizeB (to-fr)++b.drop fr∧i<fr∧fr≤to∧to≤stop∧fr=i+(sizeB (to-fr)).length:=by
 unfold spanB at h
 split at h
 ·cases h
 ·rename_i v f hl
  have hl:=lenB_ok hb hs hl
  split at h
  ·cases h
  ·injection h with h;injection h with h1 h2
   subst h1;subst h2
   have e:f+v-f=v:=by omega
   rw[e]
   refine⟨hl.1, ?_,by omega,by omega,hl.2.2.1⟩
   have:0<(sizeB v).length:=by unfold sizeB;repeat' split
                               all_goals simp
   omega
structure Read (b : List Int) (d i stop : Nat) (x : Tlv) (nx : Nat) : Prop where
 lo:i+2≤nx
 hi:nx≤stop
 enc:b.drop i=x.enc++b.drop nx
 fine:x.fine=true
 depth:x.depth≤d
 bytes:x.bytesOk
 weight:x.weight≤nx-i
theorem kidsB_ok {b:List Int} {d:Nat} {g:Nat→Nat→Res (Tlv×Nat)} {to:Nat} (hg: ∀i x nx,g i to= .ok (x,nx)→Read b d i to x nx):
  ∀(k fr:Nat) (l:List Tlv),kidsB g k fr to= .ok l→to-fr≤k→fr≤to→
   b.drop fr=Tlv.encL l++b.drop to∧Tlv.fineL l=true∧Tlv.depthL l≤d∧Tlv.bytesOkL l∧Tlv.weightL l≤to-fr
 |0,fr,l,h,hk,hf=>by
  simp only[kidsB] at h
  injection h with h;subst h
  have:fr=to:=by omega
  subst this
  simp[Tlv.encL,Tlv.fineL,Tlv.depthL,Tlv.bytesOkL,Tlv.weightL]
 |k+1,fr,l,h,hk,hf=>by
  simp only[kidsB] at h
  split at h
  ·split at h
   ·cases h
   ·rename_i x nx hx
    have hr:=hg _ _ _ hx
    split at h
    ·cases h
    ·rename_i l' hl'
     injection h with h;subst h
     have:=hr.lo
     have ih:=kidsB_ok hg k nx l' hl' (by omega) hr.hi
     refine⟨?_, ?_, ?_, ?_, ?_⟩
     ·rw[hr.enc,ih.1];simp[Tlv.encL]
     ·simp[Tlv.fineL,hr.fine,ih.2.1]
     ·simp only[Tlv.depthL];have:=hr.depth;have:=ih.2.2.1;omega
     ·exact⟨hr.bytes,ih.2.2.2.1⟩
     ·simp only[Tlv.weightL];have:=hr.weight;have:=hr.hi;have:=ih.2.2.2.2;omega
  ·injection h with h;subst h
   have:fr=to:=by omega
   subst this
   simp[Tlv.encL,Tlv.fineL,Tlv.depthL,Tlv.bytesOkL,Tlv.weightL]
theorem first_of (f:Int) (h0:0≤f) (h1:f<256):64*(f/64)+f % 32+(if f/32 % 2=1 then 32 else 0)=f:=by
 split<;>omega
theorem elemB_ok {b:List Int} (hb: ∀c∈b,0≤c∧c<256): ∀(d i stop:Nat) (x:Tlv) (nx:Nat),stop≤b.length→elemB b d i stop= .ok (x,nx)→Read b d i stop x nx
 |0,i,stop,x,nx,hs,h=>by cases h
 |d+1,i,stop,x,nx,hs,h=>by
  simp only[elemB] at h
  have g0:=byteAt_ok hb i
  have hfi:=first_of (byteAt b i) g0.1 g0.2
  split at h
  ·cases h
  split at h
  ·cases h
  split at h
  ·cases h
  rename_i fr to hsp
  have hp:=spanB_ok hb hs hsp
  have d0:=byteAt_drop (b:=b) (i:=i) (by omega)
  have hsz:0<(sizeB (to-fr)).length:=by omega
  split at h
  ·rename_i hm
   split at h
   ·cases h
   ·rename_i l hl
    injection h with h;injection h with hx hn
    subst hx;subst hn
    have ih:=kidsB_ok (fun i x nx h=>elemB_ok hb d i to x nx (by omega) h) _ _ _ hl (by omega) (by omega)
    have hlen:(Tlv.encL l).length=to-fr:=by
     have:=congrArg List.length ih.1
     simp only[List.length_append,List.length_drop] at this
     omega
    refine⟨by omega,by omega, ?_, ?_, ?_, ?_, ?_⟩
    ·simp only[Tlv.enc,List.nil_append,headB,hlen]
     rw[if_pos hm] at hfi
     simp only[if_true,List.cons_append,List.append_assoc,hfi]
     rw[d0,hp.1,ih.1]
    ·simp only[Tlv.fine,ih.2.1,Bool.and_true,decide_eq_true_eq]
     exact⟨by omega,by omega,by omega,by omega,by simp,by simp⟩
    ·simp only[Tlv.depth];omega
    ·exact⟨by simp,ih.2.2.2.1⟩
    ·simp only[Tlv.weight,List.length_nil];omega
  ·rename_i hm
   injection h with h;injection h with hx hn
   subst hx;subst hn
   have hlen:((b.drop fr).take (to-fr)).length=to-fr:=by simp;omega
   refine⟨by omega,by omega, ?_, ?_, ?_, ?_, ?_⟩
   ·simp only[Tlv.enc,Tlv.encL,List.append_nil,headB,hlen]
    rw[if_neg hm] at hfi
    simp only[Bool.false_eq_true,if_false,List.cons_append,List.append_assoc,hfi]
    rw[d0,hp.1]
    congr 2
    have:=List.take_append_drop (to-fr) (b.drop fr)
    rw[List.drop_drop,show fr+(to-fr)=to by omega] at this
    exact this.symm
   ·simp only[Tlv.fine,Tlv.fineL,Bool.and_true,decide_eq_true_eq]
    exact⟨by omega,by omega,by omega,by omega,by simp,by simp⟩
   ·simp only[Tlv.depth,Tlv.depthL];omega
   ·exact⟨fun c hc=>hb c (List.mem_of_mem_drop (List.mem_of_mem_take hc)),trivial⟩
   ·simp only[Tlv.weight,Tlv.weightL,hlen];omega
theorem parseB_ok {b:List Int} (hb: ∀c∈b,0≤c∧c<256) {x:Tlv} (h:parseB b= .ok x):
  b.length≤1048576∧x.enc=b∧x.fine=true∧x.depth≤16∧x.bytesOk∧x.weight≤b.length:=by
 unfold parseB at h
 split at h
 ·cases h
 split at h
 ·cases h
 rename_i y e he
 have hr:=elemB_ok hb _ _ _ _ _ (Nat.le_refl _) he
 split at h
 ·cases h
 ·injection h with h;subst h
  have hh:=hr.hi
  have e1:e=b.length:=by omega
  subst e1
  have:=hr.enc
  simp at this
  exact⟨by omega,this.symm,hr.fine,hr.depth,hr.bytes,hr.weight⟩
end Go.Proofs.YthpmkmogoejjpaaGreatDoor
