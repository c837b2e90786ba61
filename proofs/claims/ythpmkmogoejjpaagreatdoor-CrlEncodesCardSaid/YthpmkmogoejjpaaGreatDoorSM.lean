/- The loop of the reference's Reader.element. -/
import Derived.Test.YthpmkmogoejjpaaGreatDoorSL
import Derived.Test.YthpmkmogoejjpaaGreatDoorSK
import Derived.Test.YthpmkmogoejjpaaGreatDoorVMS
set_option linter.unusedSimpArgs false
set_option linter.unusedVariables false
namespace Go.Proofs.YthpmkmogoejjpaaGreatDoor
open Go Go.VM
variable {G : GE}
set_option maxRecDepth 100000
set_option maxHeartbeats 4000000
theorem loop_relem {m:Nat} {C:Ctx} {F:Nat} (hC:(envG G).ctx 74 (callN (envG G) F (m)) (callP (envG G) F (m))=C) {c:Code} (hc:loopAt 25 Tryz.f74=some c) (b:List Int) (nl:Bool) (d v fr0 to:Nat) (y:Int) (hd:d≤15) (hto:to≤1048576) (hfv:fr0+v=to) (g:Nat→Nat→Res (Tlv×Nat))
  (hg: ∀fr,fr≤to→match g fr to with
   | .ok (x,nx)=>callP (envG G) F m 74 [.ptr 0 0,.d (.int .i64 fr),.d (.int .i64 to),.d (.int .i64 ((d:Int)+1))] [rdr nl b 0 y] []=some ⟨[.d (.agg x.cells),.d (.int .i64 nx)],[],[rdr nl b 0 y],[]⟩
   | .bad c p=> ∃x:Tlv,callP (envG G) F m 74 [.ptr 0 0,.d (.int .i64 fr),.d (.int .i64 to),.d (.int .i64 ((d:Int)+1))] [rdr nl b 0 y] []=some ⟨[.d (.agg x.cells),.d (.int .i64 0)],[],[rdr nl b c p],[]⟩)
  (hgo: ∀fr x nx,g fr to= .ok (x,nx)→fr<nx∧nx≤to) (hgb: ∀fr c p,g fr to= .bad c p→1≤c) (xc xt:Int) (xm:Bool):
  ∀(u fr k:Nat) (acc:List Tlv) (st:St),to-fr≤u→u<k→fr≤to→acc.length+to≤2097152+fr→
   st.trim 3 [0,3,8,10,12,13,14]=⟨[(0,.ptr 0 0),(3,.d (.int .i64 d)),(8,.ptr 1 0),(10,.ptr 2 0),(12,.d (.int .i64 v)),(13,.d (.int .i64 fr0)),(14,.d (.int .i64 fr))],
    [rdr nl b 0 y,some (.cells false [.d (.int .i64 0),.d (.int .i64 0),.d (.bool false),.d (.nums .u8 true []),.d (.sl 5 true [])]),
     some (.cells false [.d (.int .i64 xc),.d (.int .i64 xt),.d (.bool xm),.d (.nums .u8 true []),.d (.sl 5 acc.isEmpty (Tlv.cellsL acc))])],[.b 2 4,.b 2 3,.b 1 4,.b 1 3]⟩→
   match kidsB g u fr to with
   | .ok l=>iter (ev C F c) 3 [0,3,8,10,12,13,14] [8,9,10,14] k st=some (.exit 0,⟨[(8,.ptr 1 0),(10,.ptr 2 0),(14,.d (.int .i64 to))],
     [rdr nl b 0 y,some (.cells false [.d (.int .i64 0),.d (.int .i64 0),.d (.bool false),.d (.nums .u8 true []),.d (.sl 5 true [])]),
      some (.cells false [.d (.int .i64 xc),.d (.int .i64 xt),.d (.bool xm),.d (.nums .u8 true []),.d (.sl 5 (acc++l).isEmpty (Tlv.cellsL (acc++l)))])],[.b 2 4,.b 2 3,.b 1 4,.b 1 3]⟩)
   | .bad c1 p=> ∃(x:Tlv) (st' :St),iter (ev C F c) 3 [0,3,8,10,12,13,14] [8,9,10,14] k st=some (.ret,st')∧finishP C 1 Tryz.f74.results.toList (some (.ret,st'))=some ⟨[.d (.agg x.cells),.d (.int .i64 0)],[],[rdr nl b c1 p],[]⟩:=by
 have htt:C.tt=(envG G).tt:=by rw[←hC];rfl
 have hlin:C.lin=[115,52,16,13,128,99,14,130,98,9,83,123]:=by rw[←hC];rfl
 have hreg:C.reg=reg74:=by rw[←hC];rfl
 have hcall:C.call=callN (envG G) F (m):=by rw[←hC];rfl
 have hcallP:C.callP=callP (envG G) F (m):=by rw[←hC];rfl
 have hlv_25:C.live 25=[0,3,8,10,12,13,14]:=by rw[←hC];rfl
 have hlv_100025:C.live 100025=[8,9,10,14]:=by rw[←hC];rfl
 have hev: ∀st,ev C F c st=ev C F ((loopAt 25 Tryz.f74).getD .skip) st:=fun st=>by rw[hc];rfl
 unfold rdr at hg⊢
 intro u
 induction u with
 |zero=>
  intro fr k acc st hu hk hf ha hst
  obtain⟨k,rfl⟩: ∃j,k=j+1:=⟨k-1,by omega⟩
  have e0: ¬((fr:Int)<(fr0:Int)+v):=by omega
  have e3:(fr0:Int)+v≤9223372036854775807:=by omega
  have e4:(-9223372036854775808:Int)≤(fr0:Int)+v:=by omega
  have hft:fr=to:=by omega
  subst hft
  simp only[kidsB]
  rw[iter_eq,hst,hev]
  simp[loopAt,findLoop,Tryz.f74,htt,hlin,hreg,reg74,hcall,hcallP,hlv_25,hlv_100025,e0,e3,e4]
 |succ u ih=>
  intro fr k acc st hu hk hf ha hst
  obtain⟨k,rfl⟩: ∃j,k=j+1:=⟨k-1,by omega⟩
  have e3:(fr0:Int)+v≤9223372036854775807:=by omega
  have e4:(-9223372036854775808:Int)≤(fr0:Int)+v:=by omega
  simp only[kidsB]
  by_cases h0:fr<to
  case neg=>
   have e0: ¬((fr:Int)<(fr0:Int)+v):=by omega
   have hft:fr=to:=by omega
   subst hft
   rw[if_neg h0]
   rw[iter_eq,hst,hev]
   simp[loopAt,findLoop,Tryz.f74,htt,hlin,hreg,reg74,hcall,hcallP,hlv_25,hlv_100025,e0,e3,e4]
  case pos=>
   have e0:((fr:Int)<(to:Int)):=by omega
   have e3:(to:Int)≤9223372036854775807:=by omega
   have e4:(-9223372036854775808:Int)≤(to:Int):=by omega
   have e1:(d:Int)+1≤9223372036854775807:=by omega
   have e2:(-9223372036854775808:Int)≤(d:Int)+1:=by omega
   have e5:(fr0:Int)+v=to:=by omega
   rw[if_pos h0]
   have hc1:=hg fr hf
   cases hgr:g fr to with
   |bad c1 p=>
    rw[hgr] at hc1
    obtain⟨x,hc1⟩:=hc1
    have hc0:=hgb _ _ _ hgr
    have hc2: ¬c1=0:=by omega
    refine⟨.mk xc xt xm true [] acc.isEmpty acc, ?_⟩
    obtain⟨x1,x2,x3,xbn,xb,xkn,xks⟩:=x
    simp only[Tlv.cells] at hc1⊢
    rw[iter_eq,hst,hev]
    cases xkn<;>cases xbn<;>
    simp[loopAt,findLoop,Tryz.f74,htt,hlin,hreg,reg74,hcall,hcallP,hlv_25,hlv_100025,e0,e1,e2,e3,e4,e5,hc1,hc2]
   |ok r=>
    obtain⟨x,nx⟩:=r
    rw[hgr] at hc1
    simp only at hc1
    obtain⟨hlo,hhi⟩:=hgo fr x nx hgr
    have ih' :=fun st h=>ih nx k (acc++[x]) st (by omega) (by omega) hhi (by simp;omega) h
    have hsn:=cellsL_snoc acc x
    obtain⟨x1,x2,x3,xbn,xb,xkn,xks⟩:=x
    simp only[Tlv.cells] at hc1 hsn
    have hal:(acc.length+1)*72≤140737488355328:=by omega
    have hal2:acc.length≤140737488355327:=by omega
    have hl:=cellsL_len acc
    cases hk2:kidsB g u nx to with
    |ok l=>
     rw[hk2] at ih'
     simp only[hgr,hk2]
     rw[iter_eq,hst,hev]
     cases xkn<;>cases xbn<;>
     (simp[loopAt,findLoop,Tryz.f74,htt,hlin,hreg,reg74,hcall,hcallP,hlv_25,hlv_100025,e0,e1,e2,e3,e4,e5,hc1,hl,hsn,hal,hal2]
      simp at ih'
      exact ih' _ (by simp))
    |bad c1 p=>
     rw[hk2] at ih'
     simp only[hgr,hk2]
     rw[iter_eq,hst,hev]
     cases xkn<;>cases xbn<;>
     (simp[loopAt,findLoop,Tryz.f74,htt,hlin,hreg,reg74,hcall,hcallP,hlv_25,hlv_100025,e0,e1,e2,e3,e4,e5,hc1,hl,hsn,hal,hal2]
      simp[Tryz.f74,htt,hlin,hreg,reg74,hcall,hcallP,hlv_25,hlv_100025] at ih'
      exact ih' _ (by simp))
end Go.Proofs.YthpmkmogoejjpaaGreatDoor
set_option linter.unusedSimpArgs false
set_option linter.unusedVariables false
namespace Go.Proofs.YthpmkmogoejjpaaGreatDoor
open Go Go.VM
variable {G : GE}
set_option maxRecDepth 100000
set_option maxHeartbeats 4000000
theorem t_relem (F:Nat) (hF:1048580<F) (b:List Int) (nl:Bool) (hnl:nl=true→b=[]) (hb: ∀c∈b,0≤c∧c<256) (hlen:b.length≤1048576) (y:Int):
  ∀(d e n i stop:Nat),d+e=16→stop≤b.length→i≤stop→
  match elemB b d i stop with
  | .ok (x,nx)=>callP (envG G) F (n+d+3) 74 [.ptr 0 0,.d (.int .i64 i),.d (.int .i64 stop),.d (.int .i64 e)] [rdr nl b 0 y] []=some ⟨[.d (.agg x.cells),.d (.int .i64 nx)],[],[rdr nl b 0 y],[]⟩
  | .bad c p=> ∃x:Tlv,callP (envG G) F (n+d+3) 74 [.ptr 0 0,.d (.int .i64 i),.d (.int .i64 stop),.d (.int .i64 e)] [rdr nl b 0 y] []=some ⟨[.d (.agg x.cells),.d (.int .i64 0)],[],[rdr nl b c p],[]⟩:=by
 intro d
 induction d with
 |zero=>
  intro e n i stop he hs hi
  have ks: ∀c p,callP (envG G) F (n+2) _ _ _ _=_:=fun c p=>t_rfail (G:=G) F (n+1) nl b 0 y c p
  simp only[elemB]
  rw[show n+0+3=n+2+1 by omega]
  rw[callP_run (fn:=Tryz.f74) rfl rfl rfl (by simp[Tryz.ntmps74])]
  generalize hC:(envG G).ctx 74 (callN (envG G) F (n+2)) (callP (envG G) F (n+2))=C
  have htt:C.tt=(envG G).tt:=by rw[←hC];rfl
  have hlin:C.lin=[115,52,16,13,128,99,14,130,98,9,83,123]:=by rw[←hC];rfl
  have hreg:C.reg=reg74:=by rw[←hC];rfl
  have hcall:C.call=callN (envG G) F (n+2):=by rw[←hC];rfl
  have hcallP:C.callP=callP (envG G) F (n+2):=by rw[←hC];rfl
  have hlv_25:C.live 25=[0,3,8,10,12,13,14]:=by rw[←hC];rfl
  have hlv_100025:C.live 100025=[8,9,10,14]:=by rw[←hC];rfl
  unfold rdr at ks⊢
  have h1:(16:Int)≤(e:Int):=by omega
  refine⟨zeroT, ?_⟩
  simp only[zeroT,Tlv.cells,Tlv.cellsL]
  simp[htt,hlin,hreg,reg74,hcall,hcallP,hlv_25,hlv_100025,ks,h1]
 |succ d ih=>
  intro e n i stop he hs hi
  have ks: ∀c p,callP (envG G) F (n+d+3) _ _ _ _=_:=fun c p=>t_rfail (G:=G) F (n+d+2) nl b 0 y c p
  have kl:callP (envG G) F (n+d+3) _ _ _ _=_:=t_rlength (G:=G) F (n+d+1) (by omega) b nl hb hlen (i+1) stop hs (by omega) y
  rw[show ((i+1:Nat):Int)=(i:Int)+1 by omega] at kl
  have g0:=byteAt_ok hb i
  rw[show n+(d+1)+3=n+d+3+1 by omega]
  rw[callP_run (fn:=Tryz.f74) rfl rfl rfl (by simp[Tryz.ntmps74])]
  generalize hC:(envG G).ctx 74 (callN (envG G) F (n+d+3)) (callP (envG G) F (n+d+3))=C
  have htt:C.tt=(envG G).tt:=by rw[←hC];rfl
  have hlin:C.lin=[115,52,16,13,128,99,14,130,98,9,83,123]:=by rw[←hC];rfl
  have hreg:C.reg=reg74:=by rw[←hC];rfl
  have hcall:C.call=callN (envG G) F (n+d+3):=by rw[←hC];rfl
  have hcallP:C.callP=callP (envG G) F (n+d+3):=by rw[←hC];rfl
  have hlv_25:C.live 25=[0,3,8,10,12,13,14]:=by rw[←hC];rfl
  have hlv_100025:C.live 100025=[8,9,10,14]:=by rw[←hC];rfl
  have h1: ¬(16:Int)≤(e:Int):=by omega
  have e1:(i:Int)+1≤9223372036854775807:=by omega
  have e2:(-9223372036854775808:Int)≤(i:Int)+1:=by omega
  simp only[elemB]
  by_cases c1:stop≤i
  ·have f1:(stop:Int)≤(i:Int):=by omega
   rw[if_pos c1]
   refine⟨zeroT, ?_⟩
   unfold rdr at ks⊢
   simp only[zeroT,Tlv.cells,Tlv.cellsL]
   simp[htt,hlin,hreg,reg74,hcall,hcallP,hlv_25,hlv_100025,ks,h1,f1]
  ·have f1: ¬(stop:Int)≤(i:Int):=by omega
   have r0:=byteAt_get (b:=b) (i:=i) (by omega)
   have hnf:nl=false:=by
    cases nl with
    |false=>rfl
    |true=>rw[hnl rfl] at hs;simp at hs;omega
   rw[if_neg c1]
   have e11:byteAt b i≤9223372036854775807:=by omega
   have e12:(-9223372036854775808:Int)≤byteAt b i:=by omega
   have t1:(byteAt b i).tmod 32=byteAt b i % 32:=Int.tmod_eq_emod_of_nonneg g0.1
   have t2:(byteAt b i).tdiv 64=byteAt b i/64:=Int.tdiv_eq_ediv_of_nonneg g0.1
   have t3:(byteAt b i).tdiv 32=byteAt b i/32:=Int.tdiv_eq_ediv_of_nonneg g0.1
   have t4:(byteAt b i/32).tmod 2=byteAt b i/32 % 2:=Int.tmod_eq_emod_of_nonneg (by omega)
   have e5:byteAt b i/64≤9223372036854775807:=by omega
   have e6:(-9223372036854775808:Int)≤byteAt b i/64:=by omega
   have e7:byteAt b i % 32≤9223372036854775807:=by omega
   have e8:(-9223372036854775808:Int)≤byteAt b i % 32:=by omega
   have e9:byteAt b i/32≤9223372036854775807:=by omega
   have e10:(-9223372036854775808:Int)≤byteAt b i/32:=by omega
   have e13:byteAt b i/32 % 2≤9223372036854775807:=by omega
   have e14:(-9223372036854775808:Int)≤byteAt b i/32 % 2:=by omega
   by_cases c2:byteAt b i % 32=31
   ·rw[if_pos c2]
    refine⟨zeroT, ?_⟩
    unfold rdr at ks⊢
    simp only[zeroT,Tlv.cells,Tlv.cellsL]
    simp[htt,hlin,hreg,reg74,hcall,hcallP,hlv_25,hlv_100025,ks,h1,f1,r0,e7,e8,e11,e12,t1,c2]
   ·rw[if_neg c2]
    simp only[spanB]
    generalize hsp:lenB b (i+1) stop=sp at*
    cases sp with
    |bad c p=>
     have hcp: ¬c=0:=by
      have:= @elemB_place b (d+1) i stop c p (by simp only[elemB,if_neg c1,if_neg c2,spanB,hsp])
      omega
     simp only[rlenV] at kl
     simp only
     refine⟨zeroT, ?_⟩
     unfold rdr at ks kl⊢
     simp only[zeroT,Tlv.cells,Tlv.cellsL]
     simp[htt,hlin,hreg,reg74,hcall,hcallP,hlv_25,hlv_100025,ks,h1,f1,r0,e1,e2,e7,e8,e11,e12,t1,c2,kl,hcp]
    |ok ft=>
     obtain⟨v,fr⟩:=ft
     have hp:=lenB_ok hb hs hsp
     simp only[rlenV] at kl
     simp only
     have e15:(fr:Int)+v≤9223372036854775807:=by omega
     have e16:(-9223372036854775808:Int)≤(fr:Int)+v:=by omega
     by_cases c4:stop<fr+v
     ·have f4:(stop:Int)<(fr:Int)+v:=by omega
      rw[if_pos c4]
      simp only
      refine⟨zeroT, ?_⟩
      unfold rdr at ks kl⊢
      simp only[zeroT,Tlv.cells,Tlv.cellsL,Int.natCast_add,Int.cast_ofNat_Int]
      simp[htt,hlin,hreg,reg74,hcall,hcallP,hlv_25,hlv_100025,ks,h1,f1,f4,r0,e1,e2,e7,e8,e11,e12,e15,e16,t1,c2,kl]
     ·have f4: ¬(stop:Int)<(fr:Int)+v:=by omega
      rw[if_neg c4]
      simp only
      by_cases c3:byteAt b i/32 % 2=1
      case neg=>
       rw[if_neg c3]
       have f2:(fr:Int)≤(fr:Int)+v:=by omega
       have f3:(fr:Int)+v≤b.length:=by omega
       have n1:((fr:Int)+v).toNat=fr+v:=by omega
       have hll:((b.take (fr+v)).drop fr).length≤140737488355327:=by simp;omega
       have hdt:(b.take (fr+v)).drop fr=(b.drop fr).take (fr+v-fr):=by rw[List.drop_take]
       rw[←hdt]
       generalize hus:(b.take (fr+v)).drop fr=us at*
       have hll2:us.length≤140737488355328:=by omega
       subst hnf
       unfold rdr at ks kl⊢
       simp only[Tlv.cells,Tlv.cellsL,Int.natCast_add]
       simp[htt,hlin,hreg,reg74,hcall,hcallP,hlv_25,hlv_100025,ks,h1,f1,f2,f3,f4,n1,r0,e1,e2,e5,e6,e7,e8,e9,e10,e11,e12,e13,e14,e15,e16,t1,t2,t3,t4,c2,c3,kl,hus,hll,hll2]
      case pos=>
       rw[if_pos c3]
       have hL:=fun st h=>loop_relem (G:=G) hC rfl b nl e v fr (fr+v) y (by omega) (by omega) rfl (elemB b d) (fun fr2 hfr=>by
         have:=ih (e+1) n fr2 (fr+v) (by omega) (by omega) hfr
         rw[show ((e+1:Nat):Int)=(e:Int)+1 by omega] at this
         exact this)
        (fun fr2 x nx h=>by have:=elemB_ok hb d fr2 (fr+v) x nx (by omega) h;exact⟨by have:=this.lo;omega,this.hi⟩)
        (fun fr2 c p h=>(elemB_place h).2.1)
        (byteAt b i/64) (byteAt b i % 32) true (fr+v-fr) fr F [] st (by omega) (by omega) (by omega) (by simp;omega) h
       generalize kidsB (elemB b d) (fr+v-fr) fr (fr+v)=kr at*
       clear hC ih
       cases kr with
       |ok l=>
        simp[Tlv.cellsL] at hL
        simp only[Tlv.cells]
        unfold rdr at ks kl hL⊢
        simp[htt,hlin,hreg,reg74,hcall,hcallP,hlv_25,hlv_100025,ks,h1,f1,f4,r0,e1,e2,e5,e6,e7,e8,e9,e10,e11,e12,e13,e14,e15,e16,t1,t2,t3,t4,c2,c3,kl,ev_loop]
        rw[hL _ (by simp[Tlv.cellsL])]
        simp[htt,hlin,hreg,reg74,hcall,hcallP,hlv_25,hlv_100025]
       |bad c p=>
        simp only at hL
        have hL2:=fun st h=>Classical.choose_spec (Classical.choose_spec (hL st h))
        simp only at hL2⊢
        unfold rdr at ks kl hL2⊢
        simp[htt,hlin,hreg,reg74,hcall,hcallP,hlv_25,hlv_100025,ks,h1,f1,f4,r0,e1,e2,e5,e6,e7,e8,e9,e10,e11,e12,e13,e14,e15,e16,t1,t2,t3,t4,c2,c3,kl,ev_loop]
        apply Exists.intro
        rw[(hL2 _ (by simp[Tlv.cellsL])).1]
        exact(hL2 _ (by simp[Tlv.cellsL])).2
end Go.Proofs.YthpmkmogoejjpaaGreatDoor
set_option linter.unusedSimpArgs false
set_option linter.unusedVariables false
namespace Go.Proofs.YthpmkmogoejjpaaGreatDoor
open Go Go.VM
variable {G : GE}
set_option maxRecDepth 100000
set_option maxHeartbeats 4000000
def rparseV:Res Tlv→List V
 | .ok x=>[.d (.agg x.cells),.d (.int .i64 0),.d (.int .i64 (-1))]
 | .bad c p=>[.d (.agg zeroT.cells),.d (.int .i64 c),.d (.int .i64 p)]
theorem t_rParse (F:Nat) (hF:1048580<F) (n:Nat) (b:List Int) (nl:Bool) (hnl:nl=true→b=[]) (hb: ∀c∈b,0≤c∧c<256):
  callN (envG G) F (n+20) 28 [.d (.nums .u8 nl b)]=some ⟨rparseV (parseB b),[]⟩:=by
 have ke:=fun(h:b.length≤1048576)=>t_relem (G:=G) F hF b nl hnl hb h 0 16 0 n 0 b.length (by omega) (by omega) (by omega)
 have kp:= @elemB_place b 16 0 b.length
 have ko:=fun x e=>elemB_ok hb 16 0 b.length x e (Nat.le_refl _)
 rw[callN_run (fn:=Tryz.f28) rfl rfl rfl (by simp[Tryz.ntmps28])]
 generalize hC:(envG G).ctx 28 (callN (envG G) F (n+19)) (callP (envG G) F (n+19))=C
 have htt:C.tt=(envG G).tt:=by rw[←hC];rfl
 have hlin:C.lin=[]:=by rw[←hC];rfl
 have hreg:C.reg=reg28:=by rw[←hC];rfl
 have hcall:C.call=callN (envG G) F (n+19):=by rw[←hC];rfl
 have hcallP:C.callP=callP (envG G) F (n+19):=by rw[←hC];rfl
 have hlv_200006:C.live 200006=[4,8,9]:=by rw[←hC];rfl
 have hlv_250006:C.live 250006=[]:=by rw[←hC];rfl
 have hlv_300006:C.live 300006=[2]:=by rw[←hC];rfl
 unfold parseB
 by_cases c1:1048576<b.length
 ·have f1:(1048576:Int)<b.length:=by omega
  simp only[if_pos c1,rparseV,zeroT,Tlv.cells,Tlv.cellsL]
  simp[htt,hlin,hreg,reg28,hcall,hcallP,hlv_200006,hlv_250006,hlv_300006,f1]
 ·have f1: ¬(1048576:Int)<b.length:=by omega
  have ke' :=ke (by omega)
  clear ke
  rw[if_neg c1]
  unfold rdr at ke'
  generalize elemB b 16 0 b.length=r at*
  cases r with
  |bad c p=>
   have hp:=kp rfl
   have hc: ¬c=0:=by omega
   simp only at ke'
   obtain⟨x,ke'⟩:=ke'
   simp only[rparseV,zeroT,Tlv.cells,Tlv.cellsL]
   obtain⟨xc,xt,xm,xbn,xb,xkn,xks⟩:=x
   simp only[Tlv.cells] at ke'
   simp at ke'
   cases xkn<;>cases xbn<;>
   simp[htt,hlin,hreg,reg28,hcall,hcallP,hlv_200006,hlv_250006,hlv_300006,f1,ke',hc]
  |ok r=>
   obtain⟨x,e⟩:=r
   have hx:=ko x e rfl
   have hh:=hx.hi
   clear ko kp hx
   obtain⟨xc,xt,xm,xbn,xb,xkn,xks⟩:=x
   simp only[Tlv.cells] at ke'
   simp at ke'
   by_cases c2:e<b.length
   ·have f2:(e:Int)<b.length:=by omega
    simp only[if_pos c2,rparseV,zeroT,Tlv.cells,Tlv.cellsL]
    cases xkn<;>cases xbn<;>
    simp[htt,hlin,hreg,reg28,hcall,hcallP,hlv_200006,hlv_250006,hlv_300006,f1,ke',f2]
   ·have f2: ¬(e:Int)<b.length:=by omega
    simp only[if_neg c2,rparseV,Tlv.cells]
    cases xkn<;>cases xbn<;>
    simp[htt,hlin,hreg,reg28,hcall,hcallP,hlv_200006,hlv_250006,hlv_300006,f1,ke',f2]
end Go.Proofs.YthpmkmogoejjpaaGreatDoor
set_option linter.unusedSimpArgs false
set_option linter.unusedVariables false
namespace Go.Proofs.YthpmkmogoejjpaaGreatDoor
open Go Go.VM
variable {G : GE}
set_option maxRecDepth 100000
set_option maxHeartbeats 4000000
theorem t_r14Scalar (F n:Nat) (d:List Int) (h:d.length≤140737488355328) (h2:d.length<F):callN (envG G) F (n+2) 105 [.d (.nums .u64 false d)]=some ⟨[.d (.bool (!decide (d=[]) && decide (cmpL d nL<0)))],[]⟩:=by
 have k1:=t_rN (G:=G) F n
 have k2:=t_Cmp (G:=G) F n false false d nL h h2
 generalize cmpL d nL=q at*
 rw[callN_run (fn:=Tryz.f105) rfl rfl rfl (by simp[Tryz.ntmps105])]
 generalize hC:(envG G).ctx 105 (callN (envG G) F (n+1)) (callP (envG G) F (n+1))=C
 have htt:C.tt=(envG G).tt:=by rw[←hC];rfl
 have hlin:C.lin=[]:=by rw[←hC];rfl
 have hreg:C.reg=reg105:=by rw[←hC];rfl
 have hcall:C.call=callN (envG G) F (n+1):=by rw[←hC];rfl
 have hcallP:C.callP=callP (envG G) F (n+1):=by rw[←hC];rfl
 clear hC
 cases d with
 |nil=>simp[htt,hlin,hreg,reg105,hcall,hcallP]
 |cons x t=>
  have e1:(0:Int)<(t.length:Int)+1:=by omega
  simp[htt,hlin,hreg,reg105,hcall,hcallP,k1,k2,e1]
theorem scal_eq {a:List Int} (ha:In64 a):(!decide (trimL (halves a)=[]) && decide (cmpL (trimL (halves a)) nL<0))=isScalar a:=by
 have h1:=canon_nil (trimL_canon (halves_in a ha))
 rw[vL_trim,vL_halves] at h1
 unfold isScalar
 rw[cmp_scalar ha,decide_eq_decide.2 h1]
theorem t_r14Encode (F:Nat) (hF:1048580<F) (hF2:F≤140737488355328) (n:Nat) (a0 a1 a2 a3 a4 a5 b0 b1 b2 b3 b4 b5:Int) (ha:In64 [a0,a1,a2,a3,a4,a5]) (hb:In64 [b0,b1,b2,b3,b4,b5]):
  callN (envG G) F (n+30) 47 [.d (sigD [a0,a1,a2,a3,a4,a5] [b0,b1,b2,b3,b4,b5])]=some (if isScalar [a0,a1,a2,a3,a4,a5]=true∧isScalar [b0,b1,b2,b3,b4,b5]=true then⟨[.d (.nums .u8 false (sigT [a0,a1,a2,a3,a4,a5] [b0,b1,b2,b3,b4,b5]).enc),.d (.bool true)],[]⟩ else⟨[.d (.nums .u8 true []),.d (.bool false)],[]⟩):=by
 have o1:callN (envG G) F (n+29) _ _=_:=t_Of6 (G:=G) F (n+26) (by omega) a0 a1 a2 a3 a4 a5 ha
 have o2:callN (envG G) F (n+29) _ _=_:=t_Of6 (G:=G) F (n+26) (by omega) b0 b1 b2 b3 b4 b5 hb
 have hd: ∀a:List Int,a.length=6→(trimL (halves a)).length≤12:=fun a h=>by
  have h1:=trimL_len (halves a)
  have h2:=cutL_le (halves a) (halves a).length
  obtain⟨a0,a1,a2,a3,a4,a5,rfl⟩:=six h
  have h3:(halves [a0,a1,a2,a3,a4,a5]).length=12:=rfl
  omega
 have d1:=hd [a0,a1,a2,a3,a4,a5] rfl
 have d2:=hd [b0,b1,b2,b3,b4,b5] rfl
 have s1:callN (envG G) F (n+29) _ _=_:=t_r14Scalar (G:=G) F (n+27) (trimL (halves [a0,a1,a2,a3,a4,a5])) (by omega) (by omega)
 have s2:callN (envG G) F (n+29) _ _=_:=t_r14Scalar (G:=G) F (n+27) (trimL (halves [b0,b1,b2,b3,b4,b5])) (by omega) (by omega)
 rw[scal_eq ha] at s1
 rw[scal_eq hb] at s2
 have y1:callN (envG G) F (n+29) _ _=_:=t_rBytes (G:=G) F (n+26) (by omega) ha rfl
 have y2:callN (envG G) F (n+29) _ _=_:=t_rBytes (G:=G) F (n+26) (by omega) hb rfl
 have m1:callN (envG G) F (n+29) _ _=_:=t_rNumberOf (G:=G) F (n+28) false (B6 [a0,a1,a2,a3,a4,a5]) (by rw[B6_len];omega) (by rw[B6_len];omega)
 have m2:callN (envG G) F (n+29) _ _=_:=t_rNumberOf (G:=G) F (n+28) false (B6 [b0,b1,b2,b3,b4,b5]) (by rw[B6_len];omega) (by rw[B6_len];omega)
 rw[numberOf_B6] at m1 m2
 simp only at m1 m2
 obtain⟨t1,t2,t3,t4⟩:=sigT_ok ha hb
 have hw:=weight_width (W:=1048576) (sigT [a0,a1,a2,a3,a4,a5] [b0,b1,b2,b3,b4,b5]) (by omega)
 have hle:=enc_le (sigT [a0,a1,a2,a3,a4,a5] [b0,b1,b2,b3,b4,b5])
 have hbw:badW (sigT [a0,a1,a2,a3,a4,a5] [b0,b1,b2,b3,b4,b5])=0:=by
  unfold badW
  rw[if_neg (by simp[t1]),if_neg (by omega),if_neg (by omega)]
 have w1:callN (envG G) F (n+29) _ _=_:=t_rWrite (G:=G) F hF2 1048576 (by omega) 16 (n+12) (sigT [a0,a1,a2,a3,a4,a5] [b0,b1,b2,b3,b4,b5]) (by omega) t2 hw (by omega)
 rw[hbw] at w1
 simp only[if_true] at w1
 clear t1 t2 t3 t4 hw hle hbw
 generalize (sigT [a0,a1,a2,a3,a4,a5] [b0,b1,b2,b3,b4,b5]).enc=en at*
 clear ha hb
 simp only[sigT,nT,Tlv.cells,Tlv.cellsL] at w1
 generalize bodyN [a0,a1,a2,a3,a4,a5]=u at*
 generalize bodyN [b0,b1,b2,b3,b4,b5]=w at*
 generalize isScalar [a0,a1,a2,a3,a4,a5]=sa at*
 generalize isScalar [b0,b1,b2,b3,b4,b5]=sb at*
 generalize trimL (halves [a0,a1,a2,a3,a4,a5])=h1 at*
 generalize trimL (halves [b0,b1,b2,b3,b4,b5])=h2 at*
 generalize B6 [a0,a1,a2,a3,a4,a5]=q1 at*
 generalize B6 [b0,b1,b2,b3,b4,b5]=q2 at*
 simp only[limbD,sigD,List.map,List.cons_append,List.nil_append] at*
 cases sa
 ·skip
  rw[callN_run (fn:=Tryz.f47) rfl rfl rfl (by simp[Tryz.ntmps47])]
  generalize hC:(envG G).ctx 47 (callN (envG G) F (n+29)) (callP (envG G) F (n+29))=C
  have htt:C.tt=(envG G).tt:=by rw[←hC];rfl
  have hlin:C.lin=[]:=by rw[←hC];rfl
  have hreg:C.reg=reg47:=by rw[←hC];rfl
  have hcall:C.call=callN (envG G) F (n+29):=by rw[←hC];rfl
  have hcallP:C.callP=callP (envG G) F (n+29):=by rw[←hC];rfl
  clear hC
  simp[htt,hlin,hreg,reg47,hcall,hcallP,o1,s1]
 ·cases sb
  ·skip
   rw[callN_run (fn:=Tryz.f47) rfl rfl rfl (by simp[Tryz.ntmps47])]
   generalize hC:(envG G).ctx 47 (callN (envG G) F (n+29)) (callP (envG G) F (n+29))=C
   have htt:C.tt=(envG G).tt:=by rw[←hC];rfl
   have hlin:C.lin=[]:=by rw[←hC];rfl
   have hreg:C.reg=reg47:=by rw[←hC];rfl
   have hcall:C.call=callN (envG G) F (n+29):=by rw[←hC];rfl
   have hcallP:C.callP=callP (envG G) F (n+29):=by rw[←hC];rfl
   clear hC
   simp[htt,hlin,hreg,reg47,hcall,hcallP,o1,s1,o2,s2]
  ·skip
   rw[callN_run (fn:=Tryz.f47) rfl rfl rfl (by simp[Tryz.ntmps47])]
   generalize hC:(envG G).ctx 47 (callN (envG G) F (n+29)) (callP (envG G) F (n+29))=C
   have htt:C.tt=(envG G).tt:=by rw[←hC];rfl
   have hlin:C.lin=[]:=by rw[←hC];rfl
   have hreg:C.reg=reg47:=by rw[←hC];rfl
   have hcall:C.call=callN (envG G) F (n+29):=by rw[←hC];rfl
   have hcallP:C.callP=callP (envG G) F (n+29):=by rw[←hC];rfl
   clear hC
   simp[htt,hlin,hreg,reg47,hcall,hcallP,o1,s1,o2,s2,y1,y2,m1,m2,w1]
end Go.Proofs.YthpmkmogoejjpaaGreatDoor
set_option linter.unusedSimpArgs false
set_option linter.unusedVariables false
namespace Go.Proofs.YthpmkmogoejjpaaGreatDoor
open Go Go.VM
variable {G : GE}
set_option maxRecDepth 100000
set_option maxHeartbeats 8000000
def bitsT (b:List Int):Tlv:= .mk 0 3 false false (0::b) true []
def sealA (x:Tlv) (b:List Int):Tlv:= .mk 0 16 true true [] false [x,algT,bitsT b]
theorem sealA_ok {x:Tlv} {b:List Int} (hf:x.fine=true) (hd:x.depth≤16) (hw:x.weight≤1048576) (ho:x.bytesOk) (hb: ∀c∈b,0≤c∧c<256) (hl:b.length≤1200):
  (sealA x b).fine=true∧(sealA x b).depth≤17∧(sealA x b).weight≤1050000∧(sealA x b).bytesOk:=by
 refine⟨?_, ?_, ?_, ?_⟩
 ·simp[sealA,algT,bitsT,Tlv.fine,Tlv.fineL,hf]
 ·simp only[sealA,algT,bitsT,Tlv.depth,Tlv.depthL]
  omega
 ·simp only[sealA,algT,oidAlg,bitsT,Tlv.weight,Tlv.weightL,List.length_nil,List.length_cons]
  omega
 ·refine⟨by simp,ho,⟨by simp,⟨fun c hc=> ?_,trivial⟩,trivial⟩,⟨fun c hc=> ?_,trivial⟩,trivial⟩
  ·simp only[oidAlg,List.mem_cons,List.not_mem_nil,or_false] at hc
   omega
  ·rcases List.mem_cons.1 hc with rfl|hc
   ·omega
   ·exact hb c hc
theorem parseB_badA {b:List Int} {c p:Int} (h:parseB b= .bad c p):(p= -1∧c=2)∨0≤p∧1≤c∧c≤9:=by
 unfold parseB at h
 split at h
 ·injection h with h1 h2;exact .inl ⟨h2.symm,h1.symm⟩
 ·split at h
  ·rename_i h1;injection h with h2 h3;subst h2;subst h3;exact .inr (elemB_place h1)
  ·split at h
   ·injection h with h2 h3;omega
   ·cases h
theorem badW_sealA {x:Tlv} {b:List Int} (hf:(sealA x b).fine=true):badW (sealA x b)=0∨badW (sealA x b)=9∨badW (sealA x b)=2:=by
 unfold badW
 rw[if_neg (by simp[hf])]
 split
 ·exact .inr (.inl rfl)
 ·split
  ·exact .inr (.inr rfl)
  ·exact .inl rfl
theorem t_ePlain (F n:Nat) (k:Int) (nl:Bool) (b:List Int):callN (envG G) F (n+1) 54 [.d (.int .i64 k),.d (.nums .u8 nl b)]=some ⟨[.d (.agg [.int .i64 0,.int .i64 k,.bool false,.nums .u8 nl b,.sl 5 true []])],[]⟩:=by
 rw[callN_run (fn:=Tryz.f54) rfl rfl rfl (by simp[Tryz.ntmps54])]
 generalize hC:(envG G).ctx 54 (callN (envG G) F (n)) (callP (envG G) F (n))=C
 have htt:C.tt=(envG G).tt:=by rw[←hC];rfl
 have hlin:C.lin=[]:=by rw[←hC];rfl
 have hreg:C.reg=reg54:=by rw[←hC];rfl
 have hcall:C.call=callN (envG G) F (n):=by rw[←hC];rfl
 have hcallP:C.callP=callP (envG G) F (n):=by rw[←hC];rfl
 clear hC
 simp[htt,hlin,hreg,reg54,hcall,hcallP]
theorem t_eBits (F n:Nat) (nl:Bool) (b:List Int) (hl:b.length≤1048576):callN (envG G) F (n+2) 89 [.d (.nums .u8 nl b)]=some ⟨[.d (.agg [.int .i64 0,.int .i64 3,.bool false,.nums .u8 false (0::b),.sl 5 true []])],[]⟩:=by
 have k:=t_ePlain (G:=G) F n 3 false (0::b)
 have e1:b.length≤140737488355328:=by omega
 have e2:b.length+1≤140737488355328:=by omega
 have e3:1+b.length≤140737488355328:=by omega
 rw[callN_run (fn:=Tryz.f89) rfl rfl rfl (by simp[Tryz.ntmps89])]
 generalize hC:(envG G).ctx 89 (callN (envG G) F (n+1)) (callP (envG G) F (n+1))=C
 have htt:C.tt=(envG G).tt:=by rw[←hC];rfl
 have hlin:C.lin=[3]:=by rw[←hC];rfl
 have hreg:C.reg=reg89:=by rw[←hC];rfl
 have hcall:C.call=callN (envG G) F (n+1):=by rw[←hC];rfl
 have hcallP:C.callP=callP (envG G) F (n+1):=by rw[←hC];rfl
 clear hC
 simp[htt,hlin,hreg,reg89,hcall,hcallP,k,e1,e2,e3]
theorem t_eList (F n:Nat) (nl:Bool) (l:List (List D)):callN (envG G) F (n+1) 36 [.d (.sl 5 nl l)]=some ⟨[.d (.agg [.int .i64 0,.int .i64 16,.bool true,.nums .u8 true [],.sl 5 nl l])],[]⟩:=by
 rw[callN_run (fn:=Tryz.f36) rfl rfl rfl (by simp[Tryz.ntmps36])]
 generalize hC:(envG G).ctx 36 (callN (envG G) F (n)) (callP (envG G) F (n))=C
 have htt:C.tt=(envG G).tt:=by rw[←hC];rfl
 have hlin:C.lin=[]:=by rw[←hC];rfl
 have hreg:C.reg=reg36:=by rw[←hC];rfl
 have hcall:C.call=callN (envG G) F (n):=by rw[←hC];rfl
 have hcallP:C.callP=callP (envG G) F (n):=by rw[←hC];rfl
 clear hC
 simp[htt,hlin,hreg,reg36,hcall,hcallP]
theorem t_rList (F n:Nat) (nl:Bool) (l:List (List D)):callN (envG G) F (n+1) 50 [.d (.sl 5 nl l)]=some ⟨[.d (.agg [.int .i64 0,.int .i64 16,.bool true,.nums .u8 true [],.sl 5 nl l])],[]⟩:=by
 rw[callN_run (fn:=Tryz.f50) rfl rfl rfl (by simp[Tryz.ntmps50])]
 generalize hC:(envG G).ctx 50 (callN (envG G) F (n)) (callP (envG G) F (n))=C
 have htt:C.tt=(envG G).tt:=by rw[←hC];rfl
 have hlin:C.lin=[]:=by rw[←hC];rfl
 have hreg:C.reg=reg50:=by rw[←hC];rfl
 have hcall:C.call=callN (envG G) F (n):=by rw[←hC];rfl
 have hcallP:C.callP=callP (envG G) F (n):=by rw[←hC];rfl
 clear hC
 simp[htt,hlin,hreg,reg50,hcall,hcallP]
end Go.Proofs.YthpmkmogoejjpaaGreatDoor
set_option linter.unusedSimpArgs false
set_option linter.unusedVariables false
namespace Go.Proofs.YthpmkmogoejjpaaGreatDoor
open Go Go.VM
variable {G : GE}
set_option maxRecDepth 100000
set_option maxHeartbeats 8000000
def AlgK (G:GE):Prop:= ∀F n,200≤F→20≤n→callN (envG G) F n 38 []=some ⟨[.d (.agg algT.cells)],[]⟩∧callN (envG G) F n 48 []=some ⟨[.d (.agg algT.cells)],[]⟩
def sealD (p:Res Tlv) (r s:List Int):List Int×Int×Int:=
 match p with
 | .bad c p=>([],c,p)
 | .ok x=>match isScalar r && isScalar s with
  |true=>(if badW (sealA x (sigT r s).enc)=0 then(sealA x (sigT r s).enc).enc else [],badW (sealA x (sigT r s).enc),-1)
  |false=>([],3,-1)
def bytesV (c:Int) (b:List Int):D:=if c=0 then .nums .u8 false b else .nums .u8 true []
def whyV (c p:Int):D:=if c=0 then .nilifc else atD c p
theorem sig_len {r s:List Int} (hr:In64 r) (hs:In64 s):(sigT r s).enc.length≤1200:=by
 have h:=enc_le (sigT r s)
 have h2:=(sigT_ok hr hs).2.2.1
 omega
theorem t_SealA (hK:SubK G) (hg:GroupG G) (F:Nat) (hF:1100000<F) (hF2:F≤140737488355328) (n:Nat) (b:List Int) (nl:Bool) (hnl:nl=true→b=[]) (hb: ∀c∈b,0≤c∧c<256)
  (a0 a1 a2 a3 a4 a5 b0 b1 b2 b3 b4 b5:Int) (ha:In64 [a0,a1,a2,a3,a4,a5]) (hc:In64 [b0,b1,b2,b3,b4,b5]):
  callN (envG G) F (n+80) 41 [.d (.nums .u8 nl b),.d (sigD [a0,a1,a2,a3,a4,a5] [b0,b1,b2,b3,b4,b5]),.d (.sl 5 false [algT.cells])]=
   some ⟨[.d (bytesV (sealD (parseB b) [a0,a1,a2,a3,a4,a5] [b0,b1,b2,b3,b4,b5]).2.1 (sealD (parseB b) [a0,a1,a2,a3,a4,a5] [b0,b1,b2,b3,b4,b5]).1),.d (whyV (sealD (parseB b) [a0,a1,a2,a3,a4,a5] [b0,b1,b2,b3,b4,b5]).2.1 (sealD (parseB b) [a0,a1,a2,a3,a4,a5] [b0,b1,b2,b3,b4,b5]).2.2)],[0]⟩:=by
 have hp:callN (envG G) F (n+79) _ _=_:=t_Parse (G:=G) F (by omega) (n+59) b nl hnl hb
 have hE:callN (envG G) F (n+79) _ _=_:=t_eEncode (G:=G) hK hg F (by omega) hF2 (n+9) a0 a1 a2 a3 a4 a5 b0 b1 b2 b3 b4 b5 ha hc
 have hB: ∀(b:List Int) (h:b.length≤1048576),callN (envG G) F (n+79) _ _=_:=fun b h=>t_eBits (G:=G) F (n+77) false b h
 have hL: ∀nl l,callN (envG G) F (n+79) _ _=_:=fun nl l=>t_eList (G:=G) F (n+78) nl l
 have hW: ∀T:Tlv,T.depth≤17→T.weight≤1050000→callN (envG G) F (n+79) _ _=_:=fun T h1 h2=>t_Write (G:=G) F hF2 1050000 (by omega) (by omega) 17 (n+9) T (by omega) h1 (weight_width (W:=1050000) T h2)
 have hsl:=sig_len ha hc
 obtain⟨t1,t2,t3,t4⟩:=sigT_ok ha hc
 have heb:=enc_bytes _ t1 t4 (by omega)
 have hT: ∀x,parseB b= .ok x→(sealA x (sigT [a0,a1,a2,a3,a4,a5] [b0,b1,b2,b3,b4,b5]).enc).depth≤17∧(sealA x (sigT [a0,a1,a2,a3,a4,a5] [b0,b1,b2,b3,b4,b5]).enc).weight≤1050000:=fun x hx=>by
  obtain⟨h1,h2,h3,h4,h5,h6⟩:=parseB_ok hb hx
  have:=sealA_ok h3 h4 (by omega) h5 heb (by omega)
  exact⟨this.2.1,this.2.2.1⟩
 have hbad: ∀c p,parseB b= .bad c p→_:=fun c p h=>parseB_badA h
 simp only[algT,Tlv.cells,Tlv.cellsL]
 have hB:=hB (sigT [a0,a1,a2,a3,a4,a5] [b0,b1,b2,b3,b4,b5]).enc (by omega)
 clear hK hg ha hc t1 t2 t3 t4 heb hsl
 generalize parseB b=r at*
 cases r with
 |bad c p=>
  clear hT hW hE hB hL
  have hc0:c≠0:=by have:=hbad c p rfl;omega
  simp only[parseV,zeroT,Tlv.cells,Tlv.cellsL] at hp
  simp only[sealD,bytesV,whyV,if_neg hc0,sigD,List.map,List.cons_append,List.nil_append]
  have hne: ∃t x,atD c p= .ifc t x:=by
   unfold atD;split
   ·exact⟨_,_,rfl⟩
   ·exact⟨_,_,rfl⟩
  obtain⟨t,x,hne⟩:=hne
  rw[hne] at hp⊢
  rw[callN_run (fn:=Tryz.f41) rfl rfl rfl (by simp[Tryz.ntmps41])]
  generalize hC:(envG G).ctx 41 (callN (envG G) F (n+79)) (callP (envG G) F (n+79))=C
  have htt:C.tt=(envG G).tt:=by rw[←hC];rfl
  have hlin:C.lin=[15,23,9,38,37,26,18,7,6,28,30]:=by rw[←hC];rfl
  have hreg:C.reg=reg41:=by rw[←hC];rfl
  have hcall:C.call=callN (envG G) F (n+79):=by rw[←hC];rfl
  have hcallP:C.callP=callP (envG G) F (n+79):=by rw[←hC];rfl
  clear hC
  simp[htt,hlin,hreg,reg41,hcall,hcallP,hp,hc0]
 |ok x=>
  obtain⟨hT1,hT2⟩:=hT x rfl
  have hW:=hW _ hT1 hT2
  clear hT hT1 hT2 hbad
  simp only[sealD]
  generalize (sigT [a0,a1,a2,a3,a4,a5] [b0,b1,b2,b3,b4,b5]).enc=en at*
  generalize isScalar [a0,a1,a2,a3,a4,a5]=sa at*
  generalize isScalar [b0,b1,b2,b3,b4,b5]=sb at*
  generalize hbw:badW (sealA x en)=bw at*
  generalize (sealA x en).enc=T at*
  simp only[sealA,algT,bitsT,Tlv.cells,Tlv.cellsL] at hW
  obtain⟨x1,x2,x3,x4,x5,x6,x7⟩:=x
  simp only[parseV,Tlv.cells,sigD,List.map,List.cons_append,List.nil_append] at*
  by_cases hsc:(sa && sb)=true
  ·rw[hsc]
   simp only
   obtain⟨rfl,rfl⟩:sa=true∧sb=true:=by simpa using hsc
   simp only[and_self,if_true] at hE
   by_cases h0:bw=0
   ·subst h0
    simp only[bytesV,whyV,errD,if_true] at hW⊢
    rw[callN_run (fn:=Tryz.f41) rfl rfl rfl (by simp[Tryz.ntmps41])]
    generalize hC:(envG G).ctx 41 (callN (envG G) F (n+79)) (callP (envG G) F (n+79))=C
    have htt:C.tt=(envG G).tt:=by rw[←hC];rfl
    have hlin:C.lin=[15,23,9,38,37,26,18,7,6,28,30]:=by rw[←hC];rfl
    have hreg:C.reg=reg41:=by rw[←hC];rfl
    have hcall:C.call=callN (envG G) F (n+79):=by rw[←hC];rfl
    have hcallP:C.callP=callP (envG G) F (n+79):=by rw[←hC];rfl
    clear hC
    simp[htt,hlin,hreg,reg41,hcall,hcallP,hp,hE,hB,hL,hW]
   ·simp only[bytesV,whyV,errD,if_neg h0,atD] at hW⊢
    rw[if_pos (by omega)]
    unfold err at hW⊢
    rw[callN_run (fn:=Tryz.f41) rfl rfl rfl (by simp[Tryz.ntmps41])]
    generalize hC:(envG G).ctx 41 (callN (envG G) F (n+79)) (callP (envG G) F (n+79))=C
    have htt:C.tt=(envG G).tt:=by rw[←hC];rfl
    have hlin:C.lin=[15,23,9,38,37,26,18,7,6,28,30]:=by rw[←hC];rfl
    have hreg:C.reg=reg41:=by rw[←hC];rfl
    have hcall:C.call=callN (envG G) F (n+79):=by rw[←hC];rfl
    have hcallP:C.callP=callP (envG G) F (n+79):=by rw[←hC];rfl
    clear hC
    simp[htt,hlin,hreg,reg41,hcall,hcallP,hp,hE,hB,hL,hW]
  ·have hsc:(sa && sb)=false:=by simpa using hsc
   rw[hsc]
   have h2: ¬(sa=true∧sb=true):=by
    rintro ⟨rfl,rfl⟩
    cases hsc
   rw[if_neg h2] at hE
   simp only[bytesV,whyV,atD]
   rw[if_neg (by omega),if_neg (by omega),if_pos (by omega)]
   unfold err at hE⊢
   rw[callN_run (fn:=Tryz.f41) rfl rfl rfl (by simp[Tryz.ntmps41])]
   generalize hC:(envG G).ctx 41 (callN (envG G) F (n+79)) (callP (envG G) F (n+79))=C
   have htt:C.tt=(envG G).tt:=by rw[←hC];rfl
   have hlin:C.lin=[15,23,9,38,37,26,18,7,6,28,30]:=by rw[←hC];rfl
   have hreg:C.reg=reg41:=by rw[←hC];rfl
   have hcall:C.call=callN (envG G) F (n+79):=by rw[←hC];rfl
   have hcallP:C.callP=callP (envG G) F (n+79):=by rw[←hC];rfl
   clear hC
   simp[htt,hlin,hreg,reg41,hcall,hcallP,hp,hE]
theorem t_SealedA (hAl:AlgK G) (F:Nat) (hF:1100000<F) (hF2:F≤140737488355328) (n:Nat) (b:List Int) (nl:Bool) (hnl:nl=true→b=[]) (hb: ∀c∈b,0≤c∧c<256)
  (a0 a1 a2 a3 a4 a5 b0 b1 b2 b3 b4 b5:Int) (ha:In64 [a0,a1,a2,a3,a4,a5]) (hc:In64 [b0,b1,b2,b3,b4,b5]):
  ∃o,(o=[]∨o=[0])∧callN (envG G) F (n+40) 19 [.d (.nums .u8 nl b),.d (sigD [a0,a1,a2,a3,a4,a5] [b0,b1,b2,b3,b4,b5]),.d (.bool false)]=
   some ⟨[.d (bytesV (sealD (parseB b) [a0,a1,a2,a3,a4,a5] [b0,b1,b2,b3,b4,b5]).2.1 (sealD (parseB b) [a0,a1,a2,a3,a4,a5] [b0,b1,b2,b3,b4,b5]).1),.d (.int .i64 (sealD (parseB b) [a0,a1,a2,a3,a4,a5] [b0,b1,b2,b3,b4,b5]).2.1),.d (.int .i64 (sealD (parseB b) [a0,a1,a2,a3,a4,a5] [b0,b1,b2,b3,b4,b5]).2.2)],o⟩:=by
 obtain⟨_,hal⟩:=hAl F (n+39) (by omega) (by omega)
 simp only[algT,Tlv.cells,Tlv.cellsL] at hal
 have hp:callN (envG G) F (n+39) _ _=_:=t_rParse (G:=G) F (by omega) (n+19) b nl hnl hb
 have hE:callN (envG G) F (n+39) _ _=_:=t_r14Encode (G:=G) F (by omega) hF2 (n+9) a0 a1 a2 a3 a4 a5 b0 b1 b2 b3 b4 b5 ha hc
 have hL: ∀nl l,callN (envG G) F (n+39) _ _=_:=fun nl l=>t_rList (G:=G) F (n+38) nl l
 have hW: ∀T:Tlv,T.depth≤17→T.weight≤1050000→callN (envG G) F (n+39) _ _=_:=fun T h1 h2=>t_rWrite (G:=G) F hF2 1050000 (by omega) 17 (n+21) T (by omega) h1 (weight_width (W:=1050000) T h2) (by have:=enc_le T;omega)
 have hsl:=sig_len ha hc
 obtain⟨t1,t2,t3,t4⟩:=sigT_ok ha hc
 have heb:=enc_bytes _ t1 t4 (by omega)
 have hT: ∀x,parseB b= .ok x→(sealA x (sigT [a0,a1,a2,a3,a4,a5] [b0,b1,b2,b3,b4,b5]).enc).depth≤17∧(sealA x (sigT [a0,a1,a2,a3,a4,a5] [b0,b1,b2,b3,b4,b5]).enc).weight≤1050000:=fun x hx=>by
  obtain⟨h1,h2,h3,h4,h5,h6⟩:=parseB_ok hb hx
  have:=sealA_ok h3 h4 (by omega) h5 heb (by omega)
  exact⟨this.2.1,this.2.2.1⟩
 have hbad: ∀c p,parseB b= .bad c p→_:=fun c p h=>parseB_badA h
 have e1:(sigT [a0,a1,a2,a3,a4,a5] [b0,b1,b2,b3,b4,b5]).enc.length≤140737488355328:=by omega
 have e2:(sigT [a0,a1,a2,a3,a4,a5] [b0,b1,b2,b3,b4,b5]).enc.length+1≤140737488355328:=by omega
 have e3:1+(sigT [a0,a1,a2,a3,a4,a5] [b0,b1,b2,b3,b4,b5]).enc.length≤140737488355328:=by omega
 clear ha hc t1 t2 t3 t4 heb hsl
 generalize parseB b=r at*
 cases r with
 |bad c p=>
  clear hT hW hE hL
  have hc0:c≠0:=by have:=hbad c p rfl;omega
  simp only[rparseV,zeroT,Tlv.cells,Tlv.cellsL] at hp
  simp only[sealD,bytesV,if_neg hc0,sigD,List.map,List.cons_append,List.nil_append]
  refine⟨[0],.inr rfl, ?_⟩
  rw[callN_run (fn:=Tryz.f19) rfl rfl rfl (by simp[Tryz.ntmps19])]
  generalize hC:(envG G).ctx 19 (callN (envG G) F (n+39)) (callP (envG G) F (n+39))=C
  have htt:C.tt=(envG G).tt:=by rw[←hC];rfl
  have hlin:C.lin=[53,52,22,21,16,15,35,11,10,55,54,41,14,26,25,8,7,6,38,44,43]:=by rw[←hC];rfl
  have hreg:C.reg=reg19:=by rw[←hC];rfl
  have hcall:C.call=callN (envG G) F (n+39):=by rw[←hC];rfl
  have hcallP:C.callP=callP (envG G) F (n+39):=by rw[←hC];rfl
  clear hC
  simp[htt,hlin,hreg,reg19,hcall,hcallP,hp,hc0]
 |ok x=>
  obtain⟨hT1,hT2⟩:=hT x rfl
  have hW:=hW _ hT1 hT2
  clear hT hT1 hT2 hbad
  simp only[sealD]
  generalize (sigT [a0,a1,a2,a3,a4,a5] [b0,b1,b2,b3,b4,b5]).enc=en at*
  generalize isScalar [a0,a1,a2,a3,a4,a5]=sa at*
  generalize isScalar [b0,b1,b2,b3,b4,b5]=sb at*
  generalize hbw:badW (sealA x en)=bw at*
  generalize (sealA x en).enc=T at*
  simp only[sealA,algT,bitsT,Tlv.cells,Tlv.cellsL] at hW
  obtain⟨x1,x2,x3,x4,x5,x6,x7⟩:=x
  simp only[rparseV,Tlv.cells,sigD,List.map,List.cons_append,List.nil_append] at*
  by_cases hsc:(sa && sb)=true
  ·rw[hsc]
   simp only
   obtain⟨rfl,rfl⟩:sa=true∧sb=true:=by simpa using hsc
   simp only[and_self,if_true] at hE
   by_cases h0:bw=0
   ·subst h0
    simp only[bytesV,if_true] at hW⊢
    refine⟨[],.inl rfl, ?_⟩
    rw[callN_run (fn:=Tryz.f19) rfl rfl rfl (by simp[Tryz.ntmps19])]
    generalize hC:(envG G).ctx 19 (callN (envG G) F (n+39)) (callP (envG G) F (n+39))=C
    have htt:C.tt=(envG G).tt:=by rw[←hC];rfl
    have hlin:C.lin=[53,52,22,21,16,15,35,11,10,55,54,41,14,26,25,8,7,6,38,44,43]:=by rw[←hC];rfl
    have hreg:C.reg=reg19:=by rw[←hC];rfl
    have hcall:C.call=callN (envG G) F (n+39):=by rw[←hC];rfl
    have hcallP:C.callP=callP (envG G) F (n+39):=by rw[←hC];rfl
    clear hC
    simp[htt,hlin,hreg,reg19,hcall,hcallP,hp,hE,hL,hW,hal,e1,e2,e3]
   ·simp only[bytesV,if_neg h0] at hW⊢
    refine⟨[],.inl rfl, ?_⟩
    rw[callN_run (fn:=Tryz.f19) rfl rfl rfl (by simp[Tryz.ntmps19])]
    generalize hC:(envG G).ctx 19 (callN (envG G) F (n+39)) (callP (envG G) F (n+39))=C
    have htt:C.tt=(envG G).tt:=by rw[←hC];rfl
    have hlin:C.lin=[53,52,22,21,16,15,35,11,10,55,54,41,14,26,25,8,7,6,38,44,43]:=by rw[←hC];rfl
    have hreg:C.reg=reg19:=by rw[←hC];rfl
    have hcall:C.call=callN (envG G) F (n+39):=by rw[←hC];rfl
    have hcallP:C.callP=callP (envG G) F (n+39):=by rw[←hC];rfl
    clear hC
    simp[htt,hlin,hreg,reg19,hcall,hcallP,hp,hE,hL,hW,hal,e1,e2,e3]
  ·have hsc:(sa && sb)=false:=by simpa using hsc
   rw[hsc]
   have h2: ¬(sa=true∧sb=true):=by
    rintro ⟨rfl,rfl⟩
    cases hsc
   rw[if_neg h2] at hE
   simp only[bytesV]
   rw[if_neg (by omega)]
   refine⟨[0],.inr rfl, ?_⟩
   rw[callN_run (fn:=Tryz.f19) rfl rfl rfl (by simp[Tryz.ntmps19])]
   generalize hC:(envG G).ctx 19 (callN (envG G) F (n+39)) (callP (envG G) F (n+39))=C
   have htt:C.tt=(envG G).tt:=by rw[←hC];rfl
   have hlin:C.lin=[53,52,22,21,16,15,35,11,10,55,54,41,14,26,25,8,7,6,38,44,43]:=by rw[←hC];rfl
   have hreg:C.reg=reg19:=by rw[←hC];rfl
   have hcall:C.call=callN (envG G) F (n+39):=by rw[←hC];rfl
   have hcallP:C.callP=callP (envG G) F (n+39):=by rw[←hC];rfl
   clear hC
   simp[htt,hlin,hreg,reg19,hcall,hcallP,hp,hE]
end Go.Proofs.YthpmkmogoejjpaaGreatDoor
