/- The law CrlEncodes, reckoned by the machine over values, hands back true. -/
import Derived.Test.YthpmkmogoejjpaaGreatDoorSM
import Derived.Test.YthpmkmogoejjpaaGreatDoorSG
import Derived.Test.YthpmkmogoejjpaaGreatDoorSN
import Derived.Test.YthpmkmogoejjpaaGreatDoorSC
import Derived.Test.YthpmkmogoejjpaaGreatDoorVMS
import Derived.Test.YthpmkmogoejjpaaGreatDoorRows
import Derived.WalkKit
import Derived.ProofKit
import Derived.OpenShut
import Derived.ShutString
import Derived.ChangeOld
import Derived.ChangeSame
import Derived.ChangeVars
import Derived.JoinedOf
import Derived.Below
import Derived.SizedLaws
import Derived.LaidLaws
import Derived.LaidHandle
import Derived.Stop.Joined
import Derived.Test.YthpmkmogoejjpaaGreatDoorVMU
import Derived.Lay
set_option linter.unusedSimpArgs false
set_option linter.unusedVariables false
namespace Go.Proofs.YthpmkmogoejjpaaGreatDoor
open Go Go.VM
set_option maxRecDepth 100000
set_option maxHeartbeats 8000000
def extS (f:FuncId) (args:List V):Option Ret:=match Nat.beq f 46 with
 |true=>isX args
 |false=>match Nat.beq f 240 with
  |true=>subX args
  |false=>match Nat.beq f 186 with
   |true=>secX args
   |false=>none
def dataS (g:Nat):Option (List D):=match Nat.beq g 6 with
 |true=>some groupC
 |false=>none
noncomputable def gSg:GE:= {glob:=fun g=>match Nat.beq g 3 with|true=>some errT|false=>dataS g,ext:=extS}
theorem s_bits:SubB gSg:=fun _=>rfl
theorem s_is:IsG gSg:=fun _=>rfl
theorem s_group:GroupG gSg:=rfl
theorem s_sub:SubK gSg:=fun F n a0 a1 a2 a3 a4 a5 b0 b1 b2 b3 b4 b5 hF=>t_lSub (G:=gSg) s_bits (fun _=>rfl) F n hF a0 a1 a2 a3 a4 a5 b0 b1 b2 b3 b4 b5
theorem s_alg1:callN (envG gSg) 200 20 38 []=some ⟨[.d (.agg algT.cells)],[]⟩:=by kernel_rfl
theorem s_alg2:callN (envG gSg) 200 20 48 []=some ⟨[.d (.agg algT.cells)],[]⟩:=by kernel_rfl
theorem s_alg:AlgK gSg:=fun F n hF hn=>⟨callN_mono hF hn s_alg1,callN_mono hF hn s_alg2⟩
theorem upL_0:callN (envG gSg) 200 60 11 []=some ⟨[.d (.bool true)],[]⟩:=by kernel_rfl
theorem upL (F n:Nat) (hf:200≤F) (hn:60≤n):callN (envG gSg) F n 11 []=some ⟨[.d (.bool true)],[]⟩:=callN_mono hf hn upL_0
theorem t_toldL (hG:IsG gSg) (F n:Nat) (hF:22<F) (c p:Int) (h:(p= -1∧c=2)∨0≤p∧1≤c∧c≤9):
  callN (envG gSg) F (n+2) 18 [.d (atD c p),.d (.int .i64 c),.d (.int .i64 p)]=some ⟨[.d (.bool true)],[]⟩:=by
 have k1:=t_Code (G:=gSg) F n hF c
 have k2:=u_Is_spot (G:=gSg) hG F n p c p c
 rw[decide_eq_true ⟨rfl,rfl⟩] at k2
 rw[callN_run (fn:=Tryz.f18) rfl rfl rfl (by simp[Tryz.ntmps18])]
 generalize hC:(envG gSg).ctx 18 (callN (envG gSg) F (n+1)) (callP (envG gSg) F (n+1))=C
 have htt:C.tt=(envG gSg).tt:=by rw[←hC];rfl
 have hlin:C.lin=[]:=by rw[←hC];rfl
 have hreg:C.reg=reg18:=by rw[←hC];rfl
 have hcall:C.call=callN (envG gSg) F (n+1):=by rw[←hC];rfl
 have hcallP:C.callP=callP (envG gSg) F (n+1):=by rw[←hC];rfl
 unfold atD
 by_cases h0:p<0
 ·rw[if_pos h0]
  rw[if_pos (by omega)] at k1
  unfold err at*
  simp[htt,hlin,hreg,reg18,hcall,hcallP,h0,k1]
 ·rw[if_neg h0]
  unfold spotD err at*
  simp[htt,hlin,hreg,reg18,hcall,hcallP,h0,k2]
theorem t_toldLc (F n:Nat) (hF:22<F) (c:Int) (h:1≤c∧c≤21):
  callN (envG gSg) F (n+2) 18 [.d (err c),.d (.int .i64 c),.d (.int .i64 (-1))]=some ⟨[.d (.bool true)],[]⟩:=by
 have k1:=t_Code (G:=gSg) F n hF c
 rw[if_pos h] at k1
 unfold err at*
 rw[callN_run (fn:=Tryz.f18) rfl rfl rfl (by simp[Tryz.ntmps18])]
 generalize hC:(envG gSg).ctx 18 (callN (envG gSg) F (n+1)) (callP (envG gSg) F (n+1))=C
 have htt:C.tt=(envG gSg).tt:=by rw[←hC];rfl
 have hlin:C.lin=[]:=by rw[←hC];rfl
 have hreg:C.reg=reg18:=by rw[←hC];rfl
 have hcall:C.call=callN (envG gSg) F (n+1):=by rw[←hC];rfl
 have hcallP:C.callP=callP (envG gSg) F (n+1):=by rw[←hC];rfl
 clear hC
 simp[htt,hlin,hreg,reg18,hcall,hcallP,k1]
theorem t_toldL_nil (F n:Nat):
  callN (envG gSg) F (n+2) 18 [.d .nilifc,.d (.int .i64 0),.d (.int .i64 (-1))]=some ⟨[.d (.bool true)],[]⟩:=by
 have k1:=t_Code_nil (G:=gSg) F n
 rw[callN_run (fn:=Tryz.f18) rfl rfl rfl (by simp[Tryz.ntmps18])]
 generalize hC:(envG gSg).ctx 18 (callN (envG gSg) F (n+1)) (callP (envG gSg) F (n+1))=C
 have htt:C.tt=(envG gSg).tt:=by rw[←hC];rfl
 have hlin:C.lin=[]:=by rw[←hC];rfl
 have hreg:C.reg=reg18:=by rw[←hC];rfl
 have hcall:C.call=callN (envG gSg) F (n+1):=by rw[←hC];rfl
 have hcallP:C.callP=callP (envG gSg) F (n+1):=by rw[←hC];rfl
 clear hC
 simp[htt,hlin,hreg,reg18,hcall,hcallP,k1]
theorem sealD_told (F n:Nat) (hF:22<F) {b:List Int} (hb: ∀c∈b,0≤c∧c<256) (r s:List Int) (hr:In64 r) (hs:In64 s):
  callN (envG gSg) F (n+2) 18 [.d (whyV (sealD (parseB b) r s).2.1 (sealD (parseB b) r s).2.2),.d (.int .i64 (sealD (parseB b) r s).2.1),.d (.int .i64 (sealD (parseB b) r s).2.2)]=some ⟨[.d (.bool true)],[]⟩:=by
 have ht:=fun c p h=>t_toldL s_is F n hF c p h
 have ht1:=fun c h=>t_toldLc F n hF c h
 have ht0:=t_toldL_nil F n
 obtain⟨t1,t2,t3,t4⟩:=sigT_ok hr hs
 have heb:=enc_bytes _ t1 t4 (by have:=enc_le (sigT r s);omega)
 have hsl:=sig_len hr hs
 cases hp:parseB b with
 |bad c p=>
  have h:=parseB_badA hp
  show callN (envG gSg) F (n+2) 18 [.d (whyV c p),.d (.int .i64 c),.d (.int .i64 p)]=_
  unfold whyV
  rw[if_neg (by omega)]
  exact ht c p h
 |ok x=>
  obtain⟨h1,h2,h3,h4,h5,h6⟩:=parseB_ok hb hp
  have hT:=sealA_ok (b:=(sigT r s).enc) h3 h4 (by omega) h5 heb (by omega)
  simp only[sealD]
  cases isScalar r && isScalar s
  ·simp only[whyV,atD]
   exact ht1 3 (by omega)
  ·simp only
   rcases badW_sealA hT.1 with h|h|h
   ·rw[h];exact ht0
   ·rw[h];exact ht1 9 (by omega)
   ·rw[h];exact ht1 2 (by omega)
theorem t_modEncode (F:Nat) (hF:1100000<F) (hF2:F≤140737488355328) (n:Nat) (b:List Int) (nl:Bool) (hnl:nl=true→b=[]) (hb: ∀c∈b,0≤c∧c<256)
  (a0 a1 a2 a3 a4 a5 b0 b1 b2 b3 b4 b5:Int) (ha:In64 [a0,a1,a2,a3,a4,a5]) (hc:In64 [b0,b1,b2,b3,b4,b5]):
  callN (envG gSg) F (n+81) 14 [.d (.nums .u8 nl b),.d (sigD [a0,a1,a2,a3,a4,a5] [b0,b1,b2,b3,b4,b5])]=
   some ⟨[.d (bytesV (sealD (parseB b) [a0,a1,a2,a3,a4,a5] [b0,b1,b2,b3,b4,b5]).2.1 (sealD (parseB b) [a0,a1,a2,a3,a4,a5] [b0,b1,b2,b3,b4,b5]).1),.d (whyV (sealD (parseB b) [a0,a1,a2,a3,a4,a5] [b0,b1,b2,b3,b4,b5]).2.1 (sealD (parseB b) [a0,a1,a2,a3,a4,a5] [b0,b1,b2,b3,b4,b5]).2.2)],[0]⟩:=by
 have k:=t_SealA (G:=gSg) s_sub s_group F hF hF2 n b nl hnl hb a0 a1 a2 a3 a4 a5 b0 b1 b2 b3 b4 b5 ha hc
 obtain⟨hal,_⟩:=s_alg F (n+80) (by omega) (by omega)
 simp only[algT,Tlv.cells,Tlv.cellsL] at hal k
 generalize sealD (parseB b) [a0,a1,a2,a3,a4,a5] [b0,b1,b2,b3,b4,b5]=q at*
 obtain⟨q1,q2,q3⟩:=q
 simp only at*
 have hbv:(∃t,bytesV q2 q1= .nums .u8 t (if q2=0 then q1 else [])):=by
  unfold bytesV;split<;>exact⟨_,rfl⟩
 obtain⟨t,hbv⟩:=hbv
 rw[hbv] at k⊢
 have hwv:whyV q2 q3= .nilifc∨ ∃t x,whyV q2 q3= .ifc t x:=by
  unfold whyV atD;split
  ·exact .inl rfl
  ·split
   ·exact .inr ⟨_,_,rfl⟩
   ·exact .inr ⟨_,_,rfl⟩
 clear ha hc hb hbv
 generalize whyV q2 q3=w at*
 generalize (if q2=0 then q1 else [])=y at*
 simp only[sigD,List.map,List.cons_append,List.nil_append] at*
 rcases hwv with rfl|⟨t',x',rfl⟩
 ·skip
  rw[callN_run (fn:=Tryz.f14) rfl rfl rfl (by simp[Tryz.ntmps14])]
  generalize hC:(envG gSg).ctx 14 (callN (envG gSg) F (n+80)) (callP (envG gSg) F (n+80))=C
  have htt:C.tt=(envG gSg).tt:=by rw[←hC];rfl
  have hlin:C.lin=[]:=by rw[←hC];rfl
  have hreg:C.reg=reg14:=by rw[←hC];rfl
  have hcall:C.call=callN (envG gSg) F (n+80):=by rw[←hC];rfl
  have hcallP:C.callP=callP (envG gSg) F (n+80):=by rw[←hC];rfl
  have hlv_200001:C.live 200001=[]:=by rw[←hC];rfl
  have hlv_250001:C.live 250001=[]:=by rw[←hC];rfl
  clear hC
  simp[htt,hlin,hreg,reg14,hcall,hcallP,hlv_200001,hlv_250001,k,hal]
 ·skip
  rw[callN_run (fn:=Tryz.f14) rfl rfl rfl (by simp[Tryz.ntmps14])]
  generalize hC:(envG gSg).ctx 14 (callN (envG gSg) F (n+80)) (callP (envG gSg) F (n+80))=C
  have htt:C.tt=(envG gSg).tt:=by rw[←hC];rfl
  have hlin:C.lin=[]:=by rw[←hC];rfl
  have hreg:C.reg=reg14:=by rw[←hC];rfl
  have hcall:C.call=callN (envG gSg) F (n+80):=by rw[←hC];rfl
  have hcallP:C.callP=callP (envG gSg) F (n+80):=by rw[←hC];rfl
  have hlv_200001:C.live 200001=[]:=by rw[←hC];rfl
  have hlv_250001:C.live 250001=[]:=by rw[←hC];rfl
  clear hC
  simp[htt,hlin,hreg,reg14,hcall,hcallP,hlv_200001,hlv_250001,k,hal]
theorem en_law (F:Nat) (hF:1100000<F) (hF2:F≤140737488355328) (n:Nat) (b:List Int) (nl:Bool) (hnl:nl=true→b=[]) (hb: ∀c∈b,0≤c∧c<256)
  (a0 a1 a2 a3 a4 a5 b0 b1 b2 b3 b4 b5:Int) (ha:In64 [a0,a1,a2,a3,a4,a5]) (hc:In64 [b0,b1,b2,b3,b4,b5]):
  callN (envG gSg) F (n+100) 5 [.d (.nums .u8 nl b),.d (sigD [a0,a1,a2,a3,a4,a5] [b0,b1,b2,b3,b4,b5])]=some ⟨[.d (.bool true)],[]⟩:=by
 have hu:=upL F (n+99) (by omega) (by omega)
 have hs:callN (envG gSg) F (n+99) _ _=_:=t_modEncode F hF hF2 (n+18) b nl hnl hb a0 a1 a2 a3 a4 a5 b0 b1 b2 b3 b4 b5 ha hc
 have hz: ∃o,(o=[]∨o=[0])∧callN (envG gSg) F (n+99) _ _=_:=t_SealedA (G:=gSg) s_alg F hF hF2 (n+59) b nl hnl hb a0 a1 a2 a3 a4 a5 b0 b1 b2 b3 b4 b5 ha hc
 obtain⟨o,ho,hz⟩:=hz
 have ht:callN (envG gSg) F (n+99) _ _=_:=sealD_told F (n+97) (by omega) hb _ _ ha hc
 generalize sealD (parseB b) [a0,a1,a2,a3,a4,a5] [b0,b1,b2,b3,b4,b5]=q at*
 obtain⟨y,c,p⟩:=q
 simp only at hs hz ht
 obtain⟨t,hbv⟩: ∃t,bytesV c y= .nums .u8 t (if c=0 then y else []):=by
  unfold bytesV;split<;>exact⟨_,rfl⟩
 rw[hbv] at hs hz
 clear ha hc hb hbv
 generalize (if c=0 then y else [])=z at*
 generalize whyV c p=w at*
 simp only[sigD,List.map,List.cons_append,List.nil_append] at hs hz⊢
 by_cases f1:(50000:Int)<b.length
 ·by_cases f2:(b.length:Int)≤1048576
  ·skip
   rw[callN_run (fn:=Tryz.f5) rfl rfl rfl (by simp[Tryz.ntmps5])]
   generalize hC:(envG gSg).ctx 5 (callN (envG gSg) F (n+99)) (callP (envG gSg) F (n+99))=C
   have htt:C.tt=(envG gSg).tt:=by rw[←hC];rfl
   have hlin:C.lin=[]:=by rw[←hC];rfl
   have hreg:C.reg=reg5:=by rw[←hC];rfl
   have hcall:C.call=callN (envG gSg) F (n+99):=by rw[←hC];rfl
   have hcallP:C.callP=callP (envG gSg) F (n+99):=by rw[←hC];rfl
   clear hC
   simp[htt,hlin,hreg,reg5,hcall,hcallP,hu,f1,f2]
  ·skip
   rw[callN_run (fn:=Tryz.f5) rfl rfl rfl (by simp[Tryz.ntmps5])]
   generalize hC:(envG gSg).ctx 5 (callN (envG gSg) F (n+99)) (callP (envG gSg) F (n+99))=C
   have htt:C.tt=(envG gSg).tt:=by rw[←hC];rfl
   have hlin:C.lin=[]:=by rw[←hC];rfl
   have hreg:C.reg=reg5:=by rw[←hC];rfl
   have hcall:C.call=callN (envG gSg) F (n+99):=by rw[←hC];rfl
   have hcallP:C.callP=callP (envG gSg) F (n+99):=by rw[←hC];rfl
   clear hC
   rcases ho with rfl|rfl<;>simp[htt,hlin,hreg,reg5,hcall,hcallP,hu,f1,f2,hs,hz,ht]
 ·skip
  rw[callN_run (fn:=Tryz.f5) rfl rfl rfl (by simp[Tryz.ntmps5])]
  generalize hC:(envG gSg).ctx 5 (callN (envG gSg) F (n+99)) (callP (envG gSg) F (n+99))=C
  have htt:C.tt=(envG gSg).tt:=by rw[←hC];rfl
  have hlin:C.lin=[]:=by rw[←hC];rfl
  have hreg:C.reg=reg5:=by rw[←hC];rfl
  have hcall:C.call=callN (envG gSg) F (n+99):=by rw[←hC];rfl
  have hcallP:C.callP=callP (envG gSg) F (n+99):=by rw[←hC];rfl
  clear hC
  rcases ho with rfl|rfl<;>simp[htt,hlin,hreg,reg5,hcall,hcallP,hu,f1,hs,hz,ht]
end Go.Proofs.YthpmkmogoejjpaaGreatDoor
namespace Go.Proofs.YthpmkmogoejjpaaGreatDoor
open Go.ChangeShapes Go.WideShapes Go.ChangeAt Go.RowKit Go.VM
set_option linter.unusedVariables false
theorem own:ownKnob Tryz.prog.godebug=none:=by kernel_rfl
theorem laidOut:laidOutB Tryz.prog=true:=by kernel_rfl
theorem As.et:Tryz.prog.globalNamed "errors.errorType" =some 3:=by kernel_rfl
theorem As.rt:(Tryz.prog.cutTypes.find? (·.1== "internal/reflectlite.rtype")).map (·.2)=some 271:=by kernel_rfl
theorem As.oneRow:((List.range 351).filter fun t=>Tryz.prog.rowNamed t [101,114,114,111,114])=[36]:=by kernel_rfl
theorem As.size:Tryz.prog.types.size=351:=by kernel_rfl
def errLaid {H:Type}:List (String×DataW H):=[("errors.errorType",Rows.laid_errors_errorType)]
theorem handle_of_laid {W:World} (h:laidMetH Tryz.prog errLaid W):W.cell? ⟨3,0,none⟩=some (.iface 271 (.agg #[.pointer (some ⟨7,36,none⟩)])):=by
 have h' :laidMet Tryz.prog [] W∧handlesMet Tryz.prog errLaid W:=h
 obtain⟨name,u,ty,e1,e2,e3,e4,e5⟩:=h'.2 _ (List.mem_singleton.2 rfl)
 have en:name=[101,114,114,111,114]:=(Option.some.inj e1).symm
 subst en
 obtain rfl:=Option.some.inj (As.rt.symm.trans e2)
 have hm:ty∈(List.range 351).filter fun t=>Tryz.prog.rowNamed t [101,114,114,111,114]:=List.mem_filter.2 ⟨List.mem_range.2 (by rw[←As.size];exact e3),e4⟩
 rw[As.oneRow] at hm
 obtain rfl:=List.mem_singleton.1 hm
 have hh:typeHandle Tryz.prog 36= .pointer (some ⟨7,36,none⟩):=by kernel_rfl
 rw[hh] at e5
 simpa using World.var?_cell As.et e5 0
theorem rep_errT {W:World} (h:W.cell? ⟨3,0,none⟩=some (.iface 271 (.agg #[.pointer (some ⟨7,36,none⟩)]))):
  RepC W noOwn 3 0 errT:=by
 intro j x hx
 match j,hx with
 |0,hx=>
  cases hx
  refine⟨_,⟨h,fun ow n h=>(by cases h),rfl⟩,.ifc _ _ _ (.agg _ _ rfl (fun j hj=> ?_) (fun j x hx=> ?_))⟩
  ·match j,hj with
   |0,_=>rfl
  ·match j,hx with
   |0,hx=>cases hx;exact .rt _ _
theorem gSg_ok:EnvOk Tryz.prog (envG gSg):=envOk gSg (fun f args r h=>by
 simp only[gSg,extS] at h
 split at h
 ·rename_i hf
  have hf:=Nat.eq_of_beq_eq_true hf
  subst hf
  exact is_sound rfl args r h
 ·split at h
  ·rename_i hf
   have hf:=Nat.eq_of_beq_eq_true hf
   subst hf
   exact sub_sound args r h
  ·split at h
   ·rename_i hf
    have hf:=Nat.eq_of_beq_eq_true hf
    subst hf
    exact sec_sound args r h
   ·cases h)
def sgData {H:Type}:List (String×DataW H):=[("escutcheon/order.group",Rows.laid_escutcheon_order_group)]
def sgLaid {H:Type}:List (String×DataW H):=("errors.errorType",Rows.laid_errors_errorType)::sgData
theorem sg_parts {W:World} (h:laidMetH Tryz.prog sgLaid W):laidMet Tryz.prog sgData W∧handlesMet Tryz.prog [("errors.errorType",Rows.laid_errors_errorType)] W:=h
theorem sg_handle {W:World} (h:handlesMet Tryz.prog [("errors.errorType",Rows.laid_errors_errorType)] W):laidMetH Tryz.prog errLaid W:=by
 have h0:laidMet Tryz.prog [] W:=laidMet_nil _ _
 exact⟨h0,h⟩
theorem rep_sg {W:World} (h:laidMetH Tryz.prog sgLaid W): ∀g cs,gSg.glob g=some cs→RepC W noOwn g 0 cs:=by
 intro g cs hg
 obtain⟨h1,h2⟩:=sg_parts h
 simp only[gSg,dataS] at hg
 split at hg
 ·rename_i hb
  have hb' :=Nat.eq_of_beq_eq_true hb
  subst hb'
  cases hg
  exact rep_errT (handle_of_laid (sg_handle h2))
 ·split at hg
  ·rename_i hb
   have hb:=Nat.eq_of_beq_eq_true hb
   subst hb;cases hg
   exact rep_laid h1 (n:= "escutcheon/order.group") (d:=Rows.laid_escutcheon_order_group) (by simp[sgData]) (by kernel_rfl) (t:=184) (by kernel_rfl) (m:=9) (k:=9) (by kernel_rfl) (by kernel_rfl) (by kernel_rfl)
  ·cases hg
noncomputable def sgWorld (os:Os):World:=
 let w0:=(World.holding Tryz.prog os ⟨#[], #[],[]⟩).layVars Tryz.prog sgData
 {w0 with heap:=w0.heap.modify 3 fun
   | .cells _ t frozen=> .cells #[.iface 271 (.agg #[.pointer (some ⟨7,36,none⟩)])] t frozen
   |o=>o}
theorem sgWorld_met (os:Os) (args:Array Value):laidMetH Tryz.prog sgLaid ((sgWorld os).forCall (fun _ _=>0) ⟨#[],args,[]⟩).memory:=
 laidMetH_of_parts (laidMet_of_run' 12 (by kernel_rfl) (by kernel_rfl)) (by kernel_rfl)
end Go.Proofs.YthpmkmogoejjpaaGreatDoor
