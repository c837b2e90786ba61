/- What der's reader.length hands back. -/
import Derived.Test.YthpmkmogoejjpaaGreatDoorSE
import Derived.Test.YthpmkmogoejjpaaGreatDoorVMR
set_option linter.unusedSimpArgs false
set_option linter.unusedVariables false
namespace Go.Proofs.YthpmkmogoejjpaaGreatDoor
open Go Go.VM
variable {G : GE}
set_option maxRecDepth 100000
set_option maxHeartbeats 4000000
def spanV:Res (Nat×Nat)→List V
 | .ok (f,t)=>[.d (.int .i64 f),.d (.int .i64 t),.d .nilifc]
 | .bad c p=>[.d (.int .i64 0),.d (.int .i64 0),.d (spotD c p)]
theorem t_dlength (F n:Nat) (hF:4<F) (b:List Int) (nl:Bool) (hb: ∀c∈b,0≤c∧c<256) (hlen:b.length≤1048576) (i stop:Nat) (hs:stop≤b.length) (hi:i≤1048577):
  callN (envG G) F (n+2) 156 [.d (.agg [.nums .u8 nl b]),.d (.int .i64 i),.d (.int .i64 stop)]=some ⟨spanV (spanB b i stop),[]⟩:=by
 have ks:=fun c p=>t_spot (G:=G) F n c p
 have g0:=byteAt_ok hb i
 have g1:=byteAt_ok hb (i+1)
 rw[callN_run (fn:=Tryz.f156) rfl rfl rfl (by simp[Tryz.ntmps156])]
 generalize hC:(envG G).ctx 156 (callN (envG G) F (n+1)) (callP (envG G) F (n+1))=C
 have htt:C.tt=(envG G).tt:=by rw[←hC];rfl
 have hlin:C.lin=[]:=by rw[←hC];rfl
 have hreg:C.reg=reg156:=by rw[←hC];rfl
 have hcall:C.call=callN (envG G) F (n+1):=by rw[←hC];rfl
 have hcallP:C.callP=callP (envG G) F (n+1):=by rw[←hC];rfl
 have hlv_12:C.live 12=[1,2,3,9,10,11,57,58,59]:=by rw[←hC];rfl
 have hlv_100012:C.live 100012=[1,2,3,6,7,8,9,10,11]:=by rw[←hC];rfl
 have hL:=fun us fr q hq hul hu nl p1 p2 p10 p11 B hB u j k st=>loop_len (G:=G) hC rfl b us fr q hb hq hul hu nl p1 p2 p10 p11 B hB u j k st
 clear hC
 unfold spotD err at ks
 have e1:(i:Int)+1≤9223372036854775807:=by omega
 have e2:(-9223372036854775808:Int)≤(i:Int)+1:=by omega
 by_cases c1:stop≤i
 ·have hsp:spanB b i stop= .bad 6 i:=by simp[spanB,lenB,c1]
  have f1:(stop:Int)≤(i:Int):=by omega
  rw[hsp]
  simp[htt,hlin,hreg,reg156,hcall,hcallP,hlv_12,hlv_100012,ks,f1,spanV,spotD,err]
 ·have f1: ¬(stop:Int)≤(i:Int):=by omega
  have r0:=byteAt_get (b:=b) (i:=i) (by omega)
  have e7:byteAt b i≤9223372036854775807:=by omega
  have e8:(-9223372036854775808:Int)≤byteAt b i:=by omega
  by_cases c2:byteAt b i<128
  ·have f2: ¬(byteAt b i=128):=by omega
   have f3: ¬(131<byteAt b i):=by omega
   have f4: ¬(128<byteAt b i):=by omega
   by_cases c3:stop<i+1+(byteAt b i).toNat
   ·have hsp:spanB b i stop= .bad 6 i:=by simp[spanB,lenB,c1,c2,c3]
    have f5:(stop:Int)-((i:Int)+1)<byteAt b i:=by omega
    have e3:(stop:Int)-((i:Int)+1)≤9223372036854775807:=by omega
    have e4:(-9223372036854775808:Int)≤(stop:Int)-((i:Int)+1):=by omega
    rw[hsp]
    generalize byteAt b i=v at*
    simp[htt,hlin,hreg,reg156,hcall,hcallP,hlv_12,hlv_100012,ks,f1,r0,e1,e2,e3,e4,e7,e8,f2,f3,f4,f5,spanV,spotD,err]
   ·have hsp:spanB b i stop= .ok (i+1,i+1+(byteAt b i).toNat):=by simp[spanB,lenB,c1,c2,c3]
    have f5: ¬(stop:Int)-((i:Int)+1)<byteAt b i:=by omega
    have e3:(stop:Int)-((i:Int)+1)≤9223372036854775807:=by omega
    have e4:(-9223372036854775808:Int)≤(stop:Int)-((i:Int)+1):=by omega
    have e5:(i:Int)+1+byteAt b i≤9223372036854775807:=by omega
    have e6:(-9223372036854775808:Int)≤(i:Int)+1+byteAt b i:=by omega
    have e9:((byteAt b i).toNat:Int)=byteAt b i:=by omega
    rw[hsp]
    simp only[spanV,Int.natCast_add,e9]
    generalize byteAt b i=v at*
    simp[htt,hlin,hreg,reg156,hcall,hcallP,hlv_12,hlv_100012,ks,f1,r0,e1,e2,e3,e4,e5,e6,e7,e8,f2,f3,f4,f5,spanV,spotD,err]
  ·by_cases c3:byteAt b i=128∨131<byteAt b i
   ·have hsp:spanB b i stop= .bad 7 i:=by simp[spanB,lenB,c1,c2,c3]
    rw[hsp]
    generalize byteAt b i=v at*
    by_cases f2:v=128
    ·subst f2
     simp[htt,hlin,hreg,reg156,hcall,hcallP,hlv_12,hlv_100012,ks,f1,r0,e1,e2,e7,e8,spanV,spotD,err]
    ·have f3:131<v:=by omega
     simp[htt,hlin,hreg,reg156,hcall,hcallP,hlv_12,hlv_100012,ks,f1,r0,e1,e2,e7,e8,f2,f3,spanV,spotD,err]
   ·obtain⟨q,hq0,hq3,hqv⟩: ∃q:Nat,1≤q∧q≤3∧byteAt b i=128+q:=⟨(byteAt b i-128).toNat,by omega,by omega,by omega⟩
    have hq:(byteAt b i-128).toNat=q:=by omega
    have f2: ¬(128+(q:Int)=128):=by omega
    have f3: ¬(131<128+(q:Int)):=by omega
    have f4:128<128+(q:Int):=by omega
    have f6:128+(q:Int)-128=q:=by omega
    have e3:(stop:Int)-((i:Int)+1)≤9223372036854775807:=by omega
    have e4:(-9223372036854775808:Int)≤(stop:Int)-((i:Int)+1):=by omega
    have e5:128+(q:Int)≤9223372036854775807:=by omega
    have e6:(-9223372036854775808:Int)≤128+(q:Int):=by omega
    have e9:(q:Int)≤9223372036854775807:=by omega
    have e10:(-9223372036854775808:Int)≤(q:Int):=by omega
    by_cases c4:stop<i+1+q
    ·have hsp:spanB b i stop= .bad 6 i:=by simp[spanB,lenB,c1,c2,c3,hq,c4]
     have f5:(stop:Int)-((i:Int)+1)<q:=by omega
     rw[hsp]
     rw[hqv] at r0
     simp[htt,hlin,hreg,reg156,hcall,hcallP,hlv_12,hlv_100012,ks,f1,r0,e1,e2,e3,e4,e5,e6,e9,e10,f2,f3,f4,f5,f6,spanV,spotD,err]
    ·have f5: ¬(stop:Int)-((i:Int)+1)<q:=by omega
     have r1:=byteAt_get (b:=b) (i:=i+1) (by omega)
     have hv:=beN_ok hb (i+1) q
     have hv2:beN b (i+1) q<16777216:=by
      have:q=1∨q=2∨q=3:=by omega
      rcases this with rfl|rfl|rfl<;>exact Int.lt_of_lt_of_le hv.2 (by decide)
     have e11:(i:Int)+1+q≤9223372036854775807:=by omega
     have e12:(-9223372036854775808:Int)≤(i:Int)+1+q:=by omega
     have f7:(i:Int)+1≤(i:Int)+1+q:=by omega
     have f8:(i:Int)+1+q≤b.length:=by omega
     have f9:(0:Int)≤(i:Int)+1:=by omega
     have n1:((i:Int)+1).toNat=i+1:=by omega
     have n2:((i:Int)+1+q).toNat=i+1+q:=by omega
     have hL1:=fun st h=>hL ((b.take (i+1+q)).drop (i+1)) (i+1) q hq3 (by simp;omega) (fun j hj=>by
      rw[List.getElem?_drop,List.getElem?_take,if_pos (by omega)];exact byteAt_get (by omega)) nl (.int .i64 i) (.int .i64 stop) (.int .i64 ((i:Int)+1)) (.int .i64 q) (.cells false [.d (.nums .u8 nl b)]) (by simp) q 0 F st (by omega) (by omega) h
     have hll:((b.take (i+1+q)).drop (i+1)).length=q:=by simp;omega
     have spc:spanB b i stop=if byteAt b (i+1)=0∨beN b (i+1) q<128 then .bad 7 i else if stop<i+1+q+(beN b (i+1) q).toNat then .bad 6 i else .ok (i+1+q,i+1+q+(beN b (i+1) q).toNat):=by
      simp only[spanB,lenB,if_neg c1,if_neg c2,if_neg c3,hq,if_neg c4]
      split
      ·rename_i h;split at h
       ·rename_i h2;rw[if_pos h2];exact h.symm
       ·cases h
      ·rename_i h;split at h
       ·cases h
       ·rename_i h2;rw[if_neg h2];injection h with h;injection h with h3 h4;subst h3;subst h4;rfl
     rw[spc]
     rw[hqv] at r0
     clear spc hqv hq c2 c3 e7 e8 g0
     simp only[beN] at hL1
     simp at hL1
     generalize beN b (i+1) q=v at*
     generalize byteAt b (i+1)=x at*
     generalize hus:(b.take (i+1+q)).drop (i+1)=us at*
     have e13:v≤9223372036854775807:=by omega
     have e14:(-9223372036854775808:Int)≤v:=by omega
     have e15:(stop:Int)-((i:Int)+1+q)≤9223372036854775807:=by omega
     have e16:(-9223372036854775808:Int)≤(stop:Int)-((i:Int)+1+q):=by omega
     have e17:(i:Int)+1+q+v≤9223372036854775807:=by omega
     have e18:(-9223372036854775808:Int)≤(i:Int)+1+q+v:=by omega
     simp[htt,hlin,hreg,reg156,hcall,hcallP,hlv_12,hlv_100012,ks,f1,r0,r1,e1,e2,e3,e4,e5,e6,e9,e10,e11,e12,f2,f3,f4,f5,f6,f7,f8,f9,n1,n2,hus,hll,ev_loop]
     rw[hL1 _ (by simp)]
     by_cases c5:x=0
     ·simp[htt,hlin,hreg,reg156,hcall,hcallP,hlv_12,hlv_100012,ks,r1,n1,f9,c5,spanV,spotD,err]
     ·by_cases c6:v<128
      ·simp[htt,hlin,hreg,reg156,hcall,hcallP,hlv_12,hlv_100012,ks,r1,n1,f9,c5,c6,spanV,spotD,err]
      ·by_cases c7:stop<i+1+q+v.toNat
       ·have f10:(stop:Int)-((i:Int)+1+q)<v:=by omega
        simp[htt,hlin,hreg,reg156,hcall,hcallP,hlv_12,hlv_100012,ks,r1,n1,f9,c5,c6,c7,f10,e11,e12,e15,e16,spanV,spotD,err]
       ·have f10: ¬(stop:Int)-((i:Int)+1+q)<v:=by omega
        have e19:(v.toNat:Int)=v:=by omega
        simp[htt,hlin,hreg,reg156,hcall,hcallP,hlv_12,hlv_100012,ks,r1,n1,f9,c5,c6,c7,f10,e11,e12,e15,e16,e17,e18,e19,spanV,spotD,err]
end Go.Proofs.YthpmkmogoejjpaaGreatDoor
set_option linter.unusedSimpArgs false
set_option linter.unusedVariables false
namespace Go.Proofs.YthpmkmogoejjpaaGreatDoor
open Go Go.VM
variable {G : GE}
set_option maxRecDepth 100000
set_option maxHeartbeats 4000000
theorem t_clone (F n:Nat) (xs:List Int) (h:xs.length≤140737488355328):callN (envG G) F (n+1) 149 [.d (.nums .u8 false xs)]=some ⟨[.d (.nums .u8 false xs)],[0]⟩:=by
 rw[callN_run (fn:=Tryz.f149) rfl rfl rfl (by simp[Tryz.ntmps149])]
 generalize hC:(envG G).ctx 149 (callN (envG G) F (n)) (callP (envG G) F (n))=C
 have htt:C.tt=(envG G).tt:=by rw[←hC];rfl
 have hlin:C.lin=[7,2,5]:=by rw[←hC];rfl
 have hreg:C.reg=reg149:=by rw[←hC];rfl
 have hcall:C.call=callN (envG G) F (n):=by rw[←hC];rfl
 have hcallP:C.callP=callP (envG G) F (n):=by rw[←hC];rfl
 simp[htt,hlin,hreg,reg149,hcall,hcallP,h]
theorem and31_aux: ∀x:Fin 256,andI .u8 (x.val:Int) 31=(x.val:Int) % 32:=by decide+kernel
theorem and32_aux: ∀x:Fin 256,decide (andI .u8 (x.val:Int) 32=0)=decide (¬(x.val:Int)/32 % 2=1):=by decide+kernel
theorem and31 {x:Int} (h:0≤x∧x<256):andI .u8 x 31=x % 32:=by
 obtain⟨n,rfl⟩:=Int.eq_ofNat_of_zero_le h.1
 exact and31_aux ⟨n,by omega⟩
theorem and32 {x:Int} (h:0≤x∧x<256):andI .u8 x 32=0↔ ¬x/32 % 2=1:=by
 obtain⟨n,rfl⟩:=Int.eq_ofNat_of_zero_le h.1
 exact decide_eq_decide.1 (and32_aux ⟨n,by omega⟩)
def zeroT:Tlv:= .mk 0 0 false true [] true []
def elemV:Res (Tlv×Nat)→List V
 | .ok (x,nx)=>[.d (.agg x.cells),.d (.int .i64 nx),.d .nilifc]
 | .bad c p=>[.d (.agg zeroT.cells),.d (.int .i64 0),.d (spotD c p)]
theorem cellsL_snoc (l:List Tlv) (x:Tlv):Tlv.cellsL l++[x.cells]=Tlv.cellsL (l++[x]):=by simp[cellsL_map]
theorem loop_elem {m:Nat} {C:Ctx} {F:Nat} (hC:(envG G).ctx 90 (callN (envG G) F (m)) (callP (envG G) F (m))=C) {c:Code} (hc:loopAt 14 Tryz.f90=some c) (b:List Int) (nl:Bool) (d to:Nat) (hd:d≤15) (hto:to≤1048576) (g:Nat→Nat→Res (Tlv×Nat))
  (hg: ∀fr,fr≤to→callN (envG G) F m 90 [.d (.agg [.nums .u8 nl b]),.d (.int .i64 fr),.d (.int .i64 to),.d (.int .i64 ((d:Int)+1))]=some ⟨elemV (g fr to),[]⟩)
  (hgo: ∀fr x nx,g fr to= .ok (x,nx)→fr<nx∧nx≤to) (p0 p1 p2 p3:D):
  ∀(u fr k:Nat) (acc:List Tlv) (st:St),to-fr≤u→u<k→fr≤to→acc.length+to≤2097152+fr→
   st.trim 25 [3,4,8,11,12,13]=⟨[(3,.d (.int .i64 d)),(4,.ptr 0 0),(8,.ptr 1 0),(11,.ptr 24 0),(12,.d (.int .i64 fr)),(13,.d (.int .i64 to))],
    [some (.cells false [.d (.nums .u8 nl b)]),some (.cells false [.d (.int .i64 0),.d (.int .i64 0),.d (.bool false),.d (.nums .u8 true []),.d (.sl 5 true [])]),
     none,none,none,none,none,none,none,none,none,none,none,none,none,none,none,none,none,none,none,none,none,none,some (.cells false [.d p0,.d p1,.d p2,.d p3,.d (.sl 5 acc.isEmpty (Tlv.cellsL acc))])],[.b 24 4,.b 24 3,.b 1 4,.b 1 3]⟩→
   match kidsB g u fr to with
   | .ok l=>iter (ev C F c) 25 [3,4,8,11,12,13] [8,9,10,11,13] k st=some (.exit 1,⟨[(8,.ptr 1 0),(11,.ptr 24 0),(13,.d (.int .i64 to))],
     [some (.cells false [.d (.nums .u8 nl b)]),some (.cells false [.d (.int .i64 0),.d (.int .i64 0),.d (.bool false),.d (.nums .u8 true []),.d (.sl 5 true [])]),
      none,none,none,none,none,none,none,none,none,none,none,none,none,none,none,none,none,none,none,none,none,none,some (.cells false [.d p0,.d p1,.d p2,.d p3,.d (.sl 5 (acc++l).isEmpty (Tlv.cellsL (acc++l)))])],[.b 24 4,.b 24 3,.b 1 4,.b 1 3]⟩)
   | .bad c1 p=> ∃st',iter (ev C F c) 25 [3,4,8,11,12,13] [8,9,10,11,13] k st=some (.ret,st')∧finish C Tryz.f90.results.toList (some (.ret,st'))=some ⟨elemV (.bad c1 p),[]⟩:=by
 have htt:C.tt=(envG G).tt:=by rw[←hC];rfl
 have hlin:C.lin=[104,75,74,17,13,14,117,108,91,79,44,32,24,10,9,110]:=by rw[←hC];rfl
 have hreg:C.reg=reg90:=by rw[←hC];rfl
 have hcall:C.call=callN (envG G) F (m):=by rw[←hC];rfl
 have hcallP:C.callP=callP (envG G) F (m):=by rw[←hC];rfl
 have hlv_14:C.live 14=[3,4,8,11,12,13]:=by rw[←hC];rfl
 have hlv_100014:C.live 100014=[8,9,10,11,13]:=by rw[←hC];rfl
 have hlv_200007:C.live 200007=[]:=by rw[←hC];rfl
 have hlv_250007:C.live 250007=[]:=by rw[←hC];rfl
 have hev: ∀st,ev C F c st=ev C F ((loopAt 14 Tryz.f90).getD .skip) st:=fun st=>by rw[hc];rfl
 intro u
 induction u with
 |zero=>
  intro fr k acc st hu hk hf ha hst
  obtain⟨k,rfl⟩: ∃j,k=j+1:=⟨k-1,by omega⟩
  have e0: ¬((fr:Int)<(to:Int)):=by omega
  simp only[kidsB]
  rw[iter_eq,hst,hev]
  simp[loopAt,findLoop,Tryz.f90,htt,hlin,hreg,reg90,hcall,hcallP,hlv_14,hlv_100014,hlv_200007,hlv_250007,e0]
 |succ u ih=>
  intro fr k acc st hu hk hf ha hst
  obtain⟨k,rfl⟩: ∃j,k=j+1:=⟨k-1,by omega⟩
  simp only[kidsB]
  by_cases h0:fr<to
  case neg=>
   have e0: ¬((fr:Int)<(to:Int)):=by omega
   rw[if_neg h0]
   rw[iter_eq,hst,hev]
   simp[loopAt,findLoop,Tryz.f90,htt,hlin,hreg,reg90,hcall,hcallP,hlv_14,hlv_100014,hlv_200007,hlv_250007,e0]
  case pos=>
   have e0:((fr:Int)<(to:Int)):=by omega
   have e1:(d:Int)+1≤9223372036854775807:=by omega
   have e2:(-9223372036854775808:Int)≤(d:Int)+1:=by omega
   rw[if_pos h0]
   have hc1:=hg fr hf
   cases hgr:g fr to with
   |bad c1 p=>
    rw[hgr] at hc1
    simp only[elemV] at hc1⊢
    simp only[spotD,err,zeroT,Tlv.cells,Tlv.cellsL] at hc1⊢
    rw[iter_eq,hst,hev]
    simp[loopAt,findLoop,Tryz.f90,htt,hlin,hreg,reg90,hcall,hcallP,hlv_14,hlv_100014,hlv_200007,hlv_250007,e0,e1,e2,hc1]
   |ok r=>
    obtain⟨x,nx⟩:=r
    rw[hgr] at hc1
    simp only[elemV] at hc1
    obtain⟨hlo,hhi⟩:=hgo fr x nx hgr
    have ih' :=fun st h=>ih nx k (acc++[x]) st (by omega) (by omega) hhi (by simp;omega) h
    have hsn:=cellsL_snoc acc x
    obtain⟨xc,xt,xm,xbn,xb,xkn,xks⟩:=x
    simp only[Tlv.cells] at hc1 hsn
    have hal:(acc.length+1)*72≤140737488355328:=by omega
    have hal2:acc.length≤140737488355327:=by omega
    have hl:=cellsL_len acc
    cases hk2:kidsB g u nx to with
    |ok l=>
     rw[hk2] at ih'
     simp only[hgr,hk2]
     rw[iter_eq,hst,hev]
     cases xkn<;>cases xbn<;>
     (simp[loopAt,findLoop,Tryz.f90,htt,hlin,hreg,reg90,hcall,hcallP,hlv_14,hlv_100014,hlv_200007,hlv_250007,e0,e1,e2,hc1,hl,hsn,hal,hal2]
      simp at ih'
      exact ih' _ (by simp))
    |bad c1 p=>
     rw[hk2] at ih'
     simp only[hgr,hk2]
     rw[iter_eq,hst,hev]
     cases xkn<;>cases xbn<;>
     (simp[loopAt,findLoop,Tryz.f90,htt,hlin,hreg,reg90,hcall,hcallP,hlv_14,hlv_100014,hlv_200007,hlv_250007,e0,e1,e2,hc1,hl,hsn,hal,hal2]
      simp[Tryz.f90,htt,hlin,hreg,reg90,hcall,hcallP,hlv_14,hlv_100014,hlv_200007,hlv_250007] at ih'
      exact ih' _ (by simp))
end Go.Proofs.YthpmkmogoejjpaaGreatDoor
set_option linter.unusedSimpArgs false
set_option linter.unusedVariables false
namespace Go.Proofs.YthpmkmogoejjpaaGreatDoor
open Go Go.VM
variable {G : GE}
set_option maxRecDepth 100000
set_option maxHeartbeats 4000000
def numB:List Int→Sum Int (List Int)
 |[]=> .inl 7
 |x::t=>if 128≤x then .inl 7 else if x=0 then(match t with
   |[]=> .inr []
   |y::u=>if y<128 then .inl 7 else if 64<(y::u).length then .inl 2 else .inr (y::u))
  else if 64<(x::t).length then .inl 2 else .inr (x::t)
end Go.Proofs.YthpmkmogoejjpaaGreatDoor
set_option linter.unusedSimpArgs false
set_option linter.unusedVariables false
namespace Go.Proofs.YthpmkmogoejjpaaGreatDoor
open Go Go.VM
variable {G : GE}
set_option maxRecDepth 100000
set_option maxHeartbeats 4000000
def val (v:Int):List Int→Int
 |[]=>v
 |x::t=>val (v*256+x) t
def small (xs:List Int):Sum Int Int:=
 match numB xs with
 | .inl e=> .inl e
 | .inr ys=>if 4<ys.length then .inl 3 else if 2147483647<val 0 ys then .inl 3 else .inr (val 0 ys)
end Go.Proofs.YthpmkmogoejjpaaGreatDoor
set_option linter.unusedSimpArgs false
set_option linter.unusedVariables false
namespace Go.Proofs.YthpmkmogoejjpaaGreatDoor
open Go Go.VM
set_option maxRecDepth 100000
set_option maxHeartbeats 4000000
def strip:List Int→List Int
 |[]=>[]
 |b::t=>if b=0 then strip t else b::t
theorem strip_len: ∀xs:List Int,(strip xs).length≤xs.length
 |[]=>by simp[strip]
 |b::t=>by
  unfold strip
  split
  ·have:=strip_len t;simp;omega
  ·simp
def numberOf (xs:List Int):Sum Int (List Int):=
 if 64<(strip xs).length then .inl 2 else match strip xs with
  |[]=> .inr [0]
  |b::t=>if 128≤b then .inr (0::b::t) else .inr (b::t)
def lead:List Int→Nat
 |[]=>0
 |b::t=>if b=0 then lead t+1 else 0
theorem drop_lead: ∀xs:List Int,xs.drop (lead xs)=strip xs
 |[]=>rfl
 |b::t=>by
  unfold lead strip
  split
  ·simpa using drop_lead t
  ·rfl
theorem lead_le: ∀xs:List Int,lead xs≤xs.length
 |[]=>by simp[lead]
 |b::t=>by
  unfold lead
  split
  ·have:=lead_le t;simp;omega
  ·simp
def wrapB8 (x:Int):Int:=IntKind.u8.wrap x
def four (n:Int):List Int:=[n/16777216 % 256,n/65536 % 256,n/256 % 256,n % 256]
def dig:Nat→Int→List Int→List Int
 |0,_,acc=>acc
 |f+1,m,acc=>if 0<m then dig f (m/256) (m % 256::acc) else acc
theorem dig_len: ∀(f:Nat) (m:Int) (acc:List Int),(dig f m acc).length≤acc.length+f
 |0,m,acc=>by simp[dig]
 |f+1,m,acc=>by
  unfold dig
  split
  ·have:=dig_len f (m/256) (m % 256::acc)
   simp at this;omega
  ·omega
theorem strip_head: ∀ {xs t:List Int} {b:Int},strip xs=b::t→b≠0
 |[],t,b,h=>by simp[strip] at h
 |c::xs,t,b,h=>by
  unfold strip at h
  split at h
  ·exact strip_head h
  ·cases h;assumption
theorem val_strip: ∀l:List Int,val 0 (strip l)=val 0 l
 |[]=>rfl
 |b::t=>by
  unfold strip
  split
  ·rename_i h
   subst h
   rw[val_strip t]
   simp[val]
  ·rfl
theorem strip_strip: ∀l:List Int,strip (strip l)=strip l
 |[]=>rfl
 |b::t=>by
  by_cases h:b=0
  ·simp[strip,h,strip_strip t]
  ·simp[strip,h]
end Go.Proofs.YthpmkmogoejjpaaGreatDoor
set_option linter.unusedSimpArgs false
set_option linter.unusedVariables false
namespace Go.Proofs.YthpmkmogoejjpaaGreatDoor
open Go Go.VM
variable {G : GE}
set_option maxRecDepth 100000
set_option maxHeartbeats 4000000
theorem t_delem (F:Nat) (hF:1048580<F) (b:List Int) (nl:Bool) (hnl:nl=true→b=[]) (hb: ∀c∈b,0≤c∧c<256) (hlen:b.length≤1048576):
  ∀(d e n i stop:Nat),d+e=16→stop≤b.length→i≤stop→
  callN (envG G) F (n+d+3) 90 [.d (.agg [.nums .u8 nl b]),.d (.int .i64 i),.d (.int .i64 stop),.d (.int .i64 e)]=some ⟨elemV (elemB b d i stop),[]⟩:=by
 intro d
 induction d with
 |zero=>
  intro e n i stop he hs hi
  have ks:=fun c p=>t_spot (G:=G) F (n+1) c p
  rw[callN_run (fn:=Tryz.f90) rfl rfl rfl (by simp[Tryz.ntmps90])]
  generalize hC:(envG G).ctx 90 (callN (envG G) F (n+2)) (callP (envG G) F (n+2))=C
  have htt:C.tt=(envG G).tt:=by rw[←hC];rfl
  have hlin:C.lin=[104,75,74,17,13,14,117,108,91,79,44,32,24,10,9,110]:=by rw[←hC];rfl
  have hreg:C.reg=reg90:=by rw[←hC];rfl
  have hcall:C.call=callN (envG G) F (n+2):=by rw[←hC];rfl
  have hcallP:C.callP=callP (envG G) F (n+2):=by rw[←hC];rfl
  have hlv_14:C.live 14=[3,4,8,11,12,13]:=by rw[←hC];rfl
  have hlv_100014:C.live 100014=[8,9,10,11,13]:=by rw[←hC];rfl
  have hlv_200007:C.live 200007=[]:=by rw[←hC];rfl
  have hlv_250007:C.live 250007=[]:=by rw[←hC];rfl
  unfold spotD err at ks
  have h1:(16:Int)≤(e:Int):=by omega
  simp only[elemB,elemV,spotD,err,zeroT,Tlv.cells,Tlv.cellsL]
  simp[htt,hlin,hreg,reg90,hcall,hcallP,hlv_14,hlv_100014,hlv_200007,hlv_250007,ks,h1]
 |succ d ih=>
  intro e n i stop he hs hi
  have ks: ∀c p,callN (envG G) F (n+d+3) _ _=_:=fun c p=>t_spot (G:=G) F (n+d+2) c p
  have kl:callN (envG G) F (n+d+3) _ _=_:=t_dlength (G:=G) F (n+d+1) (by omega) b nl hb hlen (i+1) stop hs (by omega)
  rw[show ((i+1:Nat):Int)=(i:Int)+1 by omega] at kl
  have kc: ∀xs h,callN (envG G) F (n+d+3) _ _=_:=fun xs h=>t_clone (G:=G) F (n+d+2) xs h
  have g0:=byteAt_ok hb i
  rw[show n+(d+1)+3=n+d+3+1 by omega]
  rw[callN_run (fn:=Tryz.f90) rfl rfl rfl (by simp[Tryz.ntmps90])]
  generalize hC:(envG G).ctx 90 (callN (envG G) F (n+d+3)) (callP (envG G) F (n+d+3))=C
  have htt:C.tt=(envG G).tt:=by rw[←hC];rfl
  have hlin:C.lin=[104,75,74,17,13,14,117,108,91,79,44,32,24,10,9,110]:=by rw[←hC];rfl
  have hreg:C.reg=reg90:=by rw[←hC];rfl
  have hcall:C.call=callN (envG G) F (n+d+3):=by rw[←hC];rfl
  have hcallP:C.callP=callP (envG G) F (n+d+3):=by rw[←hC];rfl
  have hlv_14:C.live 14=[3,4,8,11,12,13]:=by rw[←hC];rfl
  have hlv_100014:C.live 100014=[8,9,10,11,13]:=by rw[←hC];rfl
  have hlv_200007:C.live 200007=[]:=by rw[←hC];rfl
  have hlv_250007:C.live 250007=[]:=by rw[←hC];rfl
  unfold spotD err at ks
  have h1: ¬(16:Int)≤(e:Int):=by omega
  have e1:(i:Int)+1≤9223372036854775807:=by omega
  have e2:(-9223372036854775808:Int)≤(i:Int)+1:=by omega
  simp only[elemB]
  by_cases c1:stop≤i
  ·have f1:(stop:Int)≤(i:Int):=by omega
   rw[if_pos c1]
   simp only[elemV,spotD,err,zeroT,Tlv.cells,Tlv.cellsL]
   simp[htt,hlin,hreg,reg90,hcall,hcallP,hlv_14,hlv_100014,hlv_200007,hlv_250007,ks,h1,f1]
  ·have f1: ¬(stop:Int)≤(i:Int):=by omega
   have r0:=byteAt_get (b:=b) (i:=i) (by omega)
   have hnf:nl=false:=by
    cases nl with
    |false=>rfl
    |true=>rw[hnl rfl] at hs;simp at hs;omega
   have a1:=and31 g0
   have a2:=and32 g0
   rw[if_neg c1]
   by_cases c2:byteAt b i % 32=31
   ·rw[if_pos c2]
    rw[c2] at a1
    simp only[elemV,spotD,err,zeroT,Tlv.cells,Tlv.cellsL]
    simp[htt,hlin,hreg,reg90,hcall,hcallP,hlv_14,hlv_100014,hlv_200007,hlv_250007,ks,h1,f1,r0,a1]
   ·rw[if_neg c2]
    have a3:(byteAt b i).fdiv (2^6)=byteAt b i/64:=Int.fdiv_eq_ediv_of_nonneg _ (by omega)
    simp at a3
    have e3:byteAt b i/64≤255:=by omega
    have e4:0≤byteAt b i/64:=by omega
    have e5:byteAt b i/64≤9223372036854775807:=by omega
    have e6:(-9223372036854775808:Int)≤byteAt b i/64:=by omega
    have e7:byteAt b i % 32≤9223372036854775807:=by omega
    have e8:(-9223372036854775808:Int)≤byteAt b i % 32:=by omega
    generalize hsp:spanB b (i+1) stop=sp at*
    cases sp with
    |bad c p=>
     simp only[spanV,spotD,err] at kl
     simp only[elemV,spotD,err,zeroT,Tlv.cells,Tlv.cellsL]
     simp[htt,hlin,hreg,reg90,hcall,hcallP,hlv_14,hlv_100014,hlv_200007,hlv_250007,ks,h1,f1,r0,a1,a3,c2,e1,e2,e3,e4,e5,e6,e7,e8,kl]
    |ok ft=>
     obtain⟨fr,to⟩:=ft
     have hp:=spanB_ok hb hs hsp
     simp only[spanV] at kl⊢
     by_cases c3:byteAt b i/32 % 2=1
     case neg=>
      have a4:=a2.2 c3
      rw[if_neg c3]
      have f2:(fr:Int)≤(to:Int):=by omega
      have f3:(to:Int)≤b.length:=by omega
      have hll:((b.take to).drop fr).length≤140737488355328:=by simp;omega
      have hdt:(b.take to).drop fr=(b.drop fr).take (to-fr):=by rw[List.drop_take]
      rw[←hdt]
      have kc' :=kc _ hll
      generalize hus:(b.take to).drop fr=us at*
      subst hnf
      simp only[elemV,Tlv.cells,Tlv.cellsL]
      simp[htt,hlin,hreg,reg90,hcall,hcallP,hlv_14,hlv_100014,hlv_200007,hlv_250007,ks,h1,f1,f2,f3,r0,a1,a3,a4,c2,e1,e2,e3,e4,e5,e6,e7,e8,kl,kc',hus]
     case pos=>
      have a4: ¬andI .u8 (byteAt b i) 32=0:=fun h=>a2.1 h c3
      rw[if_pos c3]
      have hL:=fun st h=>loop_elem (G:=G) hC rfl b nl e to (by omega) (by omega) (elemB b d) (fun fr hfr=>by
        have:=ih (e+1) n fr to (by omega) (by omega) hfr
        simpa using this)
       (fun fr x nx h=>by have:=elemB_ok hb d fr to x nx (by omega) h;exact⟨by have:=this.lo;omega,this.hi⟩)
       (.int .i64 (byteAt b i/64)) (.int .i64 (byteAt b i % 32)) (.bool true) (.nums .u8 true []) (to-fr) fr F [] st (by omega) (by omega) (by omega) (by simp;omega) h
      generalize kidsB (elemB b d) (to-fr) fr to=kr at*
      clear hC ih
      cases kr with
      |ok l=>
       simp at hL
       simp only[elemV,Tlv.cells]
       simp[htt,hlin,hreg,reg90,hcall,hcallP,hlv_14,hlv_100014,hlv_200007,hlv_250007,ks,h1,f1,r0,a1,a3,a4,c2,e1,e2,e3,e4,e5,e6,e7,e8,kl,ev_loop]
       rw[hL _ (by simp[Tlv.cellsL])]
       simp[htt,hlin,hreg,reg90,hcall,hcallP,hlv_14,hlv_100014,hlv_200007,hlv_250007]
      |bad c p=>
       have hL2:=fun st h=>Classical.choose_spec (hL st h)
       simp at hL2
       simp only[elemV,spotD,err,zeroT,Tlv.cells,Tlv.cellsL] at hL2⊢
       simp[htt,hlin,hreg,reg90,hcall,hcallP,hlv_14,hlv_100014,hlv_200007,hlv_250007,ks,h1,f1,r0,a1,a3,a4,c2,e1,e2,e3,e4,e5,e6,e7,e8,kl,ev_loop]
       rw[(hL2 _ (by simp[Tlv.cellsL])).1]
       simp[htt,hlin,hreg,reg90,hcall,hcallP,hlv_14,hlv_100014,hlv_200007,hlv_250007]
       exact(hL2 _ (by simp[Tlv.cellsL])).2
end Go.Proofs.YthpmkmogoejjpaaGreatDoor
