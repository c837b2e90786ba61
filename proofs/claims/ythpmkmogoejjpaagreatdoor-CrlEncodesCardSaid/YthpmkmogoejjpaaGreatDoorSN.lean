/- What the law's Is hands back, whatever else is laid. -/
import Derived.Test.YthpmkmogoejjpaaGreatDoorSC
import Derived.Test.YthpmkmogoejjpaaGreatDoorSG
import Derived.Test.YthpmkmogoejjpaaGreatDoorVMS
set_option linter.unusedSimpArgs false
set_option linter.unusedVariables false
namespace Go.Proofs.YthpmkmogoejjpaaGreatDoor
open Go Go.VM
variable {G : GE}
set_option maxRecDepth 100000
set_option maxHeartbeats 4000000
def IsG (G:GE):Prop:= ∀args,G.ext 46 args=isX args
theorem u_Is_spot (hG:IsG G) (F n:Nat) (q k p c:Int):callN (envG G) F (n+1) 46 [.d (spotD k q),.d (.int .i64 p),.d (.int .i64 c)]=some ⟨[.d (.bool (decide (q=p∧k=c)))],[]⟩:=by
 rw[callN_succ]
 have:(envG G).ext 46 [.d (spotD k q),.d (.int .i64 p),.d (.int .i64 c)]=some ⟨[.d (.bool (decide (q=p∧k=c)))],[]⟩:=by
  show G.ext _ _=_
  rw[hG];rfl
 rw[this]
end Go.Proofs.YthpmkmogoejjpaaGreatDoor
set_option linter.unusedSimpArgs false
set_option linter.unusedVariables false
namespace Go.Proofs.YthpmkmogoejjpaaGreatDoor
open Go Go.VM
def leapY (y:Int):Prop:=y % 4=0∧(y % 100≠0∨y % 400=0)
instance (y : Int) : Decidable (leapY y) := by unfold leapY; infer_instance
def dim (y m:Int):Int:=if m=2 then(if leapY y then 29 else 28) else if m=4∨m=6∨m=9∨m=11 then 30 else 31
def yd (y:Int):Int:=(y-1-1969)*365+(y-1)/4-492-(y-1)/100+19+(y-1)/400-4
theorem yd_1970:yd 1970=0:=by decide
theorem yd_succ (y:Int):yd (y+1)=yd y+337+dim y 2:=by
 unfold yd dim
 rw[if_pos rfl]
 by_cases h:leapY y
 ·rw[if_pos h]
  unfold leapY at h
  omega
 ·rw[if_neg h]
  unfold leapY at h
  omega
theorem dim_pos (y m:Int):28≤dim y m∧dim y m≤31:=by
 unfold dim
 split
 ·split<;>omega
 ·split<;>omega
def md (y:Int):Nat→Int
 |0=>0
 |1=>0
 |m+2=>md y (m+1)+dim y (m+1:Nat)
theorem md_succ (y:Int) {m:Nat} (h:1≤m):md y (m+1)=md y m+dim y m:=by
 obtain⟨k,rfl⟩: ∃k,m=k+1:=⟨m-1,by omega⟩
 rfl
theorem dim_not2 (y:Int) {m:Int} (h:m≠2):dim y m=if m=4∨m=6∨m=9∨m=11 then 30 else 31:=by unfold dim;rw[if_neg h]
theorem md_year (y:Int):md y 13=337+dim y 2:=by
 simp only[md]
 have e: ∀m:Nat,((m:Nat):Int)=(m:Int):=fun _=>rfl
 rw[dim_not2 y (m:=((0+1:Nat):Int)) (by omega),dim_not2 y (m:=((2+1:Nat):Int)) (by omega),dim_not2 y (m:=((3+1:Nat):Int)) (by omega),dim_not2 y (m:=((4+1:Nat):Int)) (by omega),dim_not2 y (m:=((5+1:Nat):Int)) (by omega),
  dim_not2 y (m:=((6+1:Nat):Int)) (by omega),dim_not2 y (m:=((7+1:Nat):Int)) (by omega),dim_not2 y (m:=((8+1:Nat):Int)) (by omega),dim_not2 y (m:=((9+1:Nat):Int)) (by omega),dim_not2 y (m:=((10+1:Nat):Int)) (by omega),dim_not2 y (m:=((11+1:Nat):Int)) (by omega)]
 have h2:dim y ((1+1:Nat):Int)=dim y 2:=rfl
 rw[h2]
 simp
 omega
theorem yd_mono {a b:Int} (h:a≤b):yd a≤yd b:=by
 obtain⟨k,rfl⟩: ∃k:Nat,b=a+k:=⟨(b-a).toNat,by omega⟩
 induction k with
 |zero=>simp
 |succ k ih=>
  have:=ih (by omega)
  have e:=yd_succ (a+k)
  have d:=dim_pos (a+k) 2
  have:a+((k+1:Nat):Int)=a+k+1:=by omega
  rw[this];omega
theorem md_mono (y:Int) {a b:Nat} (h1:1≤a) (h:a≤b):md y a≤md y b:=by
 induction b with
 |zero=>omega
 |succ b ih=>
  rcases Nat.lt_or_ge a (b+1) with h2|h2
  ·have:=ih (by omega)
   have e:=md_succ y (m:=b) (by omega)
   have d:=dim_pos y b
   omega
  ·have:a=b+1:=by omega
   subst this;omega
end Go.Proofs.YthpmkmogoejjpaaGreatDoor
set_option linter.unusedSimpArgs false
set_option linter.unusedVariables false
namespace Go.Proofs.YthpmkmogoejjpaaGreatDoor
open Go Go.VM
def isTm (t y:Int) (m:Nat) (d s:Int):Prop:=1950≤y∧y≤9999∧1≤m∧m≤12∧1≤d∧d≤dim y m∧0≤s∧s<86400∧t=(yd y+md y m+d-1)*86400+s
def two (n:Int):List Int:=[48+n/10,48+n % 10]
def tmB (y:Int) (m:Nat) (d s:Int):List Int:=(if 2050≤y then two (y/100) else [])++(two (y % 100)++(two m++(two d++(two (s/3600)++(two (s/60 % 60)++(two (s % 60)++[90]))))))
def tmT (y:Int):Int:=if 2050≤y then 24 else 23
theorem yd_1950:yd 1950= -7305:=by decide
theorem md_1 (y:Int):md y 1=0:=rfl
theorem md_13 (y:Int):md y 13=337+dim y 2:=md_year y
end Go.Proofs.YthpmkmogoejjpaaGreatDoor
set_option linter.unusedSimpArgs false
set_option linter.unusedVariables false
namespace Go.Proofs.YthpmkmogoejjpaaGreatDoor
open Go Go.VM
variable {G : GE}
set_option maxRecDepth 100000
set_option maxHeartbeats 4000000
theorem t_days (F n:Nat) (y m:Int) (h0:0≤y) (h1:1≤m) (h12:m≤12):callN (envG G) F (n+1) 223 [.d (.int .i64 y),.d (.int .i64 m)]=some ⟨[.d (.int .i64 (dim y m))],[]⟩:=by
 have d4:y.tmod 4=y % 4:=Int.tmod_eq_emod_of_nonneg (by omega)
 have d100:y.tmod 100=y % 100:=Int.tmod_eq_emod_of_nonneg (by omega)
 have d400:y.tmod 400=y % 400:=Int.tmod_eq_emod_of_nonneg (by omega)
 have w: ∀z:Int,-100000000≤z→z≤100000000→IntKind.i64.wrap z=z:=fun z h1 h2=>wrap_ok (by simp;omega) (by simp;omega)
 have w1:=w (y % 4) (by omega) (by omega)
 have w2:=w (y % 100) (by omega) (by omega)
 have w3:=w (y % 400) (by omega) (by omega)
 clear w
 have hm:m=1∨m=2∨m=3∨m=4∨m=5∨m=6∨m=7∨m=8∨m=9∨m=10∨m=11∨m=12:=by omega
 have q: ∀(l:Bool),(l=true↔leapY y)→True:=fun _ _=>trivial
 unfold dim leapY
 rw[callN_run (fn:=Tryz.f223) rfl rfl rfl (by simp[Tryz.ntmps223])]
 generalize hC:(envG G).ctx 223 (callN (envG G) F (n)) (callP (envG G) F (n))=C
 have htt:C.tt=(envG G).tt:=by rw[←hC];rfl
 have hlin:C.lin=[]:=by rw[←hC];rfl
 have hreg:C.reg=reg223:=by rw[←hC];rfl
 have hcall:C.call=callN (envG G) F (n):=by rw[←hC];rfl
 have hcallP:C.callP=callP (envG G) F (n):=by rw[←hC];rfl
 by_cases h400:y % 400=0
 ·have h4:y % 4=0:=by omega
  rcases hm with rfl|rfl|rfl|rfl|rfl|rfl|rfl|rfl|rfl|rfl|rfl|rfl<;>simp[htt,hlin,hreg,reg223,hcall,hcallP,d4,d100,d400,w1,w2,w3,h400,h4]
 ·by_cases h4:y % 4=0
  ·by_cases h100:y % 100=0
   ·rcases hm with rfl|rfl|rfl|rfl|rfl|rfl|rfl|rfl|rfl|rfl|rfl|rfl<;>simp[htt,hlin,hreg,reg223,hcall,hcallP,d4,d100,d400,w1,w2,w3,h400,h4,h100]
   ·rcases hm with rfl|rfl|rfl|rfl|rfl|rfl|rfl|rfl|rfl|rfl|rfl|rfl<;>simp[htt,hlin,hreg,reg223,hcall,hcallP,d4,d100,d400,w1,w2,w3,h400,h4,h100]
  ·rcases hm with rfl|rfl|rfl|rfl|rfl|rfl|rfl|rfl|rfl|rfl|rfl|rfl<;>simp[htt,hlin,hreg,reg223,hcall,hcallP,d4,d100,d400,w1,w2,w3,h400,h4]
end Go.Proofs.YthpmkmogoejjpaaGreatDoor
set_option linter.unusedSimpArgs false
set_option linter.unusedVariables false
namespace Go.Proofs.YthpmkmogoejjpaaGreatDoor
open Go Go.VM
variable {G : GE}
set_option maxRecDepth 100000
set_option maxHeartbeats 4000000
theorem wrap_small {z:Int} (h1: -100000000≤z) (h2:z≤100000000):IntKind.i64.wrap z=z:=wrap_ok (by simp;omega) (by simp;omega)
theorem yd_bounds {y:Int} (h0:1950≤y) (h1:y≤10001): -7305≤yd y∧yd y≤2933263:=by
 have a:=yd_mono h0
 have b:=yd_mono h1
 have:yd 10001=2933263:=by decide
 rw[yd_1950] at a
 omega
theorem loop_sec1 {m:Nat} {C:Ctx} {F:Nat} (hC:(envG G).ctx 186 (callN (envG G) F (m+1)) (callP (envG G) F (m+1))=C) {c:Code} (hc:loopAt 3 Tryz.f186=some c) (y a d:Int) (hy:y≤10000):
  ∀(j k:Nat) (x:Int) (st:St),1970≤x→x≤10000→(x+j=y∨(y<x∧j=0))→j<k→
   st.trim 0 [0,1,2,7,8]=⟨[(0,.d (.int .i64 y)),(1,.d (.int .i64 a)),(2,.d (.int .i64 d)),(7,.d (.int .i64 (yd x))),(8,.d (.int .i64 x))],[],[]⟩→
   iter (ev C F c) 0 [0,1,2,7,8] [0,1,2,6,7] k st=some (.exit 0,⟨[(0,.d (.int .i64 y)),(1,.d (.int .i64 a)),(2,.d (.int .i64 d)),(7,.d (.int .i64 (yd (x+j))))],[],[]⟩):=by
 have htt:C.tt=(envG G).tt:=by rw[←hC];rfl
 have hlin:C.lin=[]:=by rw[←hC];rfl
 have hreg:C.reg=reg186:=by rw[←hC];rfl
 have hcall:C.call=callN (envG G) F (m+1):=by rw[←hC];rfl
 have hcallP:C.callP=callP (envG G) F (m+1):=by rw[←hC];rfl
 have hlv_3:C.live 3=[0,1,2,7,8]:=by rw[←hC];rfl
 have hlv_100003:C.live 100003=[0,1,2,6,7]:=by rw[←hC];rfl
 have hlv_7:C.live 7=[0,1,2,7,9]:=by rw[←hC];rfl
 have hlv_100007:C.live 100007=[0,1,2,6,7]:=by rw[←hC];rfl
 have hlv_11:C.live 11=[0,1,2,7,10]:=by rw[←hC];rfl
 have hlv_100011:C.live 100011=[2,6,7]:=by rw[←hC];rfl
 have hev: ∀st,ev C F c st=ev C F ((loopAt 3 Tryz.f186).getD .skip) st:=fun st=>by rw[hc];rfl
 intro j
 induction j with
 |zero=>
  intro k x st h1 h2 h3 hk hst
  obtain⟨k,rfl⟩: ∃j,k=j+1:=⟨k-1,by omega⟩
  have e0: ¬x<y:=by omega
  rw[iter_eq,hst,hev]
  simp[loopAt,findLoop,Tryz.f186,htt,hlin,hreg,reg186,hcall,hcallP,hlv_3,hlv_100003,hlv_7,hlv_100007,hlv_11,hlv_100011,e0]
 |succ j ih=>
  intro k x st h1 h2 h3 hk hst
  obtain⟨k,rfl⟩: ∃j,k=j+1:=⟨k-1,by omega⟩
  have e0:x<y:=by omega
  obtain⟨b1,b2⟩:=yd_bounds (y:=x) (by omega) (by omega)
  have hd:=dim_pos x 2
  have w1:IntKind.i64.wrap (yd x+337)=yd x+337:=wrap_small (by omega) (by omega)
  have w2:IntKind.i64.wrap (yd x+337+dim x 2)=yd x+337+dim x 2:=wrap_small (by omega) (by omega)
  have w3:IntKind.i64.wrap (x+1)=x+1:=wrap_small (by omega) (by omega)
  have ih' :=fun st h=>ih k (x+1) st (by omega) (by omega) (by omega) (by omega) h
  rw[yd_succ,show x+1+(j:Int)=x+((j+1:Nat):Int) by omega] at ih'
  have kd:=t_days (G:=G) F m x 2 (by omega) (by omega) (by omega)
  rw[iter_eq,hst,hev]
  simp[loopAt,findLoop,Tryz.f186,htt,hlin,hreg,reg186,hcall,hcallP,hlv_3,hlv_100003,hlv_7,hlv_100007,hlv_11,hlv_100011,e0,kd,w1,w2,w3]
  simp at ih'
  exact ih' _ (by simp)
theorem loop_sec2 {m:Nat} {C:Ctx} {F:Nat} (hC:(envG G).ctx 186 (callN (envG G) F (m+1)) (callP (envG G) F (m+1))=C) {c:Code} (hc:loopAt 7 Tryz.f186=some c) (y a d N:Int) (hN: -10000000≤N∧N≤10000000):
  ∀(j k:Nat) (x:Int) (st:St),1950≤x→x≤10000→(x+j=1970∨(1970≤x∧j=0))→j<k→
   st.trim 0 [0,1,2,7,9]=⟨[(0,.d (.int .i64 y)),(1,.d (.int .i64 a)),(2,.d (.int .i64 d)),(7,.d (.int .i64 (N+ -yd x))),(9,.d (.int .i64 x))],[],[]⟩→
   iter (ev C F c) 0 [0,1,2,7,9] [0,1,2,6,7] k st=some (.exit 2,⟨[(0,.d (.int .i64 y)),(1,.d (.int .i64 a)),(2,.d (.int .i64 d)),(7,.d (.int .i64 (N+ -yd (x+j))))],[],[]⟩):=by
 have htt:C.tt=(envG G).tt:=by rw[←hC];rfl
 have hlin:C.lin=[]:=by rw[←hC];rfl
 have hreg:C.reg=reg186:=by rw[←hC];rfl
 have hcall:C.call=callN (envG G) F (m+1):=by rw[←hC];rfl
 have hcallP:C.callP=callP (envG G) F (m+1):=by rw[←hC];rfl
 have hlv_3:C.live 3=[0,1,2,7,8]:=by rw[←hC];rfl
 have hlv_100003:C.live 100003=[0,1,2,6,7]:=by rw[←hC];rfl
 have hlv_7:C.live 7=[0,1,2,7,9]:=by rw[←hC];rfl
 have hlv_100007:C.live 100007=[0,1,2,6,7]:=by rw[←hC];rfl
 have hlv_11:C.live 11=[0,1,2,7,10]:=by rw[←hC];rfl
 have hlv_100011:C.live 100011=[2,6,7]:=by rw[←hC];rfl
 have hev: ∀st,ev C F c st=ev C F ((loopAt 7 Tryz.f186).getD .skip) st:=fun st=>by rw[hc];rfl
 intro j
 induction j with
 |zero=>
  intro k x st h1 h2 h3 hk hst
  obtain⟨k,rfl⟩: ∃j,k=j+1:=⟨k-1,by omega⟩
  have e0: ¬x<1970:=by omega
  rw[iter_eq,hst,hev]
  simp[loopAt,findLoop,Tryz.f186,htt,hlin,hreg,reg186,hcall,hcallP,hlv_3,hlv_100003,hlv_7,hlv_100007,hlv_11,hlv_100011,e0]
 |succ j ih=>
  intro k x st h1 h2 h3 hk hst
  obtain⟨k,rfl⟩: ∃j,k=j+1:=⟨k-1,by omega⟩
  have e0:x<1970:=by omega
  obtain⟨b1,b2⟩:=yd_bounds (y:=x) (by omega) (by omega)
  have hd:=dim_pos x 2
  have w1:IntKind.i64.wrap (N+ -yd x-337)=N+ -yd x-337:=wrap_small (by omega) (by omega)
  have w2:IntKind.i64.wrap (N+ -yd x-337-dim x 2)=N+ -yd x-337-dim x 2:=wrap_small (by omega) (by omega)
  have w3:IntKind.i64.wrap (x+1)=x+1:=wrap_small (by omega) (by omega)
  have ih' :=fun st h=>ih k (x+1) st (by omega) (by omega) (by omega) (by omega) h
  rw[yd_succ,show x+1+(j:Int)=x+((j+1:Nat):Int) by omega,show N+ -(yd x+337+dim x 2)=N+ -yd x-337-dim x 2 by omega] at ih'
  have kd:=t_days (G:=G) F m x 2 (by omega) (by omega) (by omega)
  generalize N+ -yd x=q at*
  rw[iter_eq,hst,hev]
  simp[loopAt,findLoop,Tryz.f186,htt,hlin,hreg,reg186,hcall,hcallP,hlv_3,hlv_100003,hlv_7,hlv_100007,hlv_11,hlv_100011,e0,kd,w1,w2,w3]
  simp at ih'
  exact ih' _ (by simp)
theorem md_bounds (y:Int) {k:Nat} (h1:1≤k) (h2:k≤13):0≤md y k∧md y k≤400:=by
 have a:=md_mono y (show 1≤1 by omega) h1
 have b:=md_mono y h1 h2
 have d:=dim_pos y 2
 rw[md_1] at a
 rw[md_13] at b
 omega
theorem loop_sec3 {m:Nat} {C:Ctx} {F:Nat} (hC:(envG G).ctx 186 (callN (envG G) F (m+1)) (callP (envG G) F (m+1))=C) {c:Code} (hc:loopAt 11 Tryz.f186=some c) (y a d N:Int) (hy0:0≤y) (ha:a≤12) (hN: -10000000≤N∧N≤10000000):
  ∀(j k x:Nat) (st:St),1≤x→((x:Int)+j=a)→j<k→
   st.trim 0 [0,1,2,7,10]=⟨[(0,.d (.int .i64 y)),(1,.d (.int .i64 a)),(2,.d (.int .i64 d)),(7,.d (.int .i64 (N+md y x))),(10,.d (.int .i64 x))],[],[]⟩→
   iter (ev C F c) 0 [0,1,2,7,10] [2,6,7] k st=some (.exit 4,⟨[(2,.d (.int .i64 d)),(7,.d (.int .i64 (N+md y (x+j))))],[],[]⟩):=by
 have htt:C.tt=(envG G).tt:=by rw[←hC];rfl
 have hlin:C.lin=[]:=by rw[←hC];rfl
 have hreg:C.reg=reg186:=by rw[←hC];rfl
 have hcall:C.call=callN (envG G) F (m+1):=by rw[←hC];rfl
 have hcallP:C.callP=callP (envG G) F (m+1):=by rw[←hC];rfl
 have hlv_3:C.live 3=[0,1,2,7,8]:=by rw[←hC];rfl
 have hlv_100003:C.live 100003=[0,1,2,6,7]:=by rw[←hC];rfl
 have hlv_7:C.live 7=[0,1,2,7,9]:=by rw[←hC];rfl
 have hlv_100007:C.live 100007=[0,1,2,6,7]:=by rw[←hC];rfl
 have hlv_11:C.live 11=[0,1,2,7,10]:=by rw[←hC];rfl
 have hlv_100011:C.live 100011=[2,6,7]:=by rw[←hC];rfl
 have hev: ∀st,ev C F c st=ev C F ((loopAt 11 Tryz.f186).getD .skip) st:=fun st=>by rw[hc];rfl
 intro j
 induction j with
 |zero=>
  intro k x st h1 h2 hk hst
  obtain⟨k,rfl⟩: ∃j,k=j+1:=⟨k-1,by omega⟩
  have e0: ¬(x:Int)<a:=by omega
  rw[iter_eq,hst,hev]
  simp[loopAt,findLoop,Tryz.f186,htt,hlin,hreg,reg186,hcall,hcallP,hlv_3,hlv_100003,hlv_7,hlv_100007,hlv_11,hlv_100011,e0]
 |succ j ih=>
  intro k x st h1 h2 hk hst
  obtain⟨k,rfl⟩: ∃j,k=j+1:=⟨k-1,by omega⟩
  have e0:(x:Int)<a:=by omega
  obtain⟨b1,b2⟩:=md_bounds y h1 (show x≤13 by omega)
  have hd:=dim_pos y x
  have w2:IntKind.i64.wrap (N+md y x+dim y x)=N+md y x+dim y x:=wrap_small (by omega) (by omega)
  have w3:IntKind.i64.wrap ((x:Int)+1)=x+1:=wrap_small (by omega) (by omega)
  have ih' :=fun st h=>ih k (x+1) st (by omega) (by omega) (by omega) h
  rw[md_succ y h1,show x+1+j=x+(j+1) by omega,show N+(md y x+dim y x)=N+md y x+dim y x by omega] at ih'
  have kd:=t_days (G:=G) F m y x (by omega) (by omega) (by omega)
  generalize N+md y x=q at*
  generalize md y (x+(j+1))=q2 at*
  rw[iter_eq,hst,hev]
  simp[loopAt,findLoop,Tryz.f186,htt,hlin,hreg,reg186,hcall,hcallP,hlv_3,hlv_100003,hlv_7,hlv_100007,hlv_11,hlv_100011,e0,kd,w2,w3]
  simp at ih'
  exact ih' _ (by simp)
theorem t_Seconds (hn: ∀args,G.ext 186 args=none) (F n:Nat) (hF:10000<F) (y:Int) (h0:1950≤y) (h1:y≤10000) (a:Nat) (ha1:1≤a) (ha2:a≤12) (d:Int) (hd0:0≤d) (hd1:d≤40):
  callN (envG G) F (n+2) 186 [.d (.int .i64 y),.d (.int .i64 a),.d (.int .i64 d)]=some ⟨[.d (.int .i64 ((yd y+md y a+d-1)*86400))],[]⟩:=by
 obtain⟨b1,b2⟩:=yd_bounds h0 (by omega)
 obtain⟨b3,b4⟩:=md_bounds y ha1 (by omega)
 have w1:IntKind.i64.wrap (yd y+md y a+d)=yd y+md y a+d:=wrap_small (by omega) (by omega)
 have w2:IntKind.i64.wrap (yd y+md y a+d-1)=yd y+md y a+d-1:=wrap_small (by omega) (by omega)
 have w3:IntKind.i64.wrap ((yd y+md y a+d-1)*86400)=(yd y+md y a+d-1)*86400:=wrap_ok (by simp;omega) (by simp;omega)
 rw[callN_run (fn:=Tryz.f186) (hn _) rfl rfl (by simp[Tryz.ntmps186])]
 generalize hC:(envG G).ctx 186 (callN (envG G) F (n+1)) (callP (envG G) F (n+1))=C
 have htt:C.tt=(envG G).tt:=by rw[←hC];rfl
 have hlin:C.lin=[]:=by rw[←hC];rfl
 have hreg:C.reg=reg186:=by rw[←hC];rfl
 have hcall:C.call=callN (envG G) F (n+1):=by rw[←hC];rfl
 have hcallP:C.callP=callP (envG G) F (n+1):=by rw[←hC];rfl
 have hlv_3:C.live 3=[0,1,2,7,8]:=by rw[←hC];rfl
 have hlv_100003:C.live 100003=[0,1,2,6,7]:=by rw[←hC];rfl
 have hlv_7:C.live 7=[0,1,2,7,9]:=by rw[←hC];rfl
 have hlv_100007:C.live 100007=[0,1,2,6,7]:=by rw[←hC];rfl
 have hlv_11:C.live 11=[0,1,2,7,10]:=by rw[←hC];rfl
 have hlv_100011:C.live 100011=[2,6,7]:=by rw[←hC];rfl
 have hL1: ∀st,st.trim 0 [0,1,2,7,8]=⟨[(0,.d (.int .i64 y)),(1,.d (.int .i64 a)),(2,.d (.int .i64 d)),(7,.d (.int .i64 0)),(8,.d (.int .i64 1970))],[],[]⟩→
   iter _ 0 [0,1,2,7,8] [0,1,2,6,7] F st=some (.exit 0,⟨[(0,.d (.int .i64 y)),(1,.d (.int .i64 a)),(2,.d (.int .i64 d)),(7,.d (.int .i64 (if 1970≤y then yd y else 0)))],[],[]⟩):=fun st h=>by
  have k:=loop_sec1 (G:=G) hC rfl y a d h1 (y-1970).toNat F 1970 st (by omega) (by omega) (by omega) (by omega) (by rw[yd_1970];exact h)
  rw[k]
  by_cases hh:1970≤y
  ·rw[if_pos hh,show (1970:Int)+((y-1970).toNat:Int)=y by omega]
  ·rw[if_neg hh,show (1970:Int)+((y-1970).toNat:Int)=1970 by omega,yd_1970]
 have hL2: ∀st,st.trim 0 [0,1,2,7,9]=⟨[(0,.d (.int .i64 y)),(1,.d (.int .i64 a)),(2,.d (.int .i64 d)),(7,.d (.int .i64 (if 1970≤y then yd y else 0))),(9,.d (.int .i64 y))],[],[]⟩→
   iter _ 0 [0,1,2,7,9] [0,1,2,6,7] F st=some (.exit 2,⟨[(0,.d (.int .i64 y)),(1,.d (.int .i64 a)),(2,.d (.int .i64 d)),(7,.d (.int .i64 (yd y)))],[],[]⟩):=fun st h=>by
  by_cases hh:1970≤y
  ·have k:=loop_sec2 (G:=G) hC rfl y a d (2*yd y) (by omega) 0 F y st (by omega) (by omega) (by omega) (by omega) (by rw[h,if_pos hh];simp only[St.mk.injEq,List.cons.injEq,Prod.mk.injEq,V.d.injEq,D.int.injEq,and_true,true_and];omega)
   rw[k,show 2*yd y+ -yd (y+((0:Nat):Int))=yd y by simp;omega]
  ·have k:=loop_sec2 (G:=G) hC rfl y a d (yd y) (by omega) (1970-y).toNat F y st (by omega) (by omega) (by omega) (by omega) (by rw[h,if_neg hh];simp only[St.mk.injEq,List.cons.injEq,Prod.mk.injEq,V.d.injEq,D.int.injEq,and_true,true_and];omega)
   rw[k,show y+((1970-y).toNat:Int)=1970 by omega,yd_1970]
   simp
 have hL3: ∀st,st.trim 0 [0,1,2,7,10]=⟨[(0,.d (.int .i64 y)),(1,.d (.int .i64 a)),(2,.d (.int .i64 d)),(7,.d (.int .i64 (yd y))),(10,.d (.int .i64 1))],[],[]⟩→
   iter _ 0 [0,1,2,7,10] [2,6,7] F st=some (.exit 4,⟨[(2,.d (.int .i64 d)),(7,.d (.int .i64 (yd y+md y a)))],[],[]⟩):=fun st h=>by
  have k:=loop_sec3 (G:=G) hC rfl y a d (yd y) (by omega) (by omega) (by omega) (a-1) F 1 st (by omega) (by omega) (by omega) (by rw[h,md_1];simp)
  rw[k,show 1+(a-1)=a by omega]
 clear hC
 generalize (if 1970≤y then yd y else 0)=q1 at*
 generalize yd y=q2 at*
 generalize md y a=q3 at*
 simp[htt,hlin,hreg,reg186,hcall,hcallP,hlv_3,hlv_100003,hlv_7,hlv_100007,hlv_11,hlv_100011,ev_loop,hL1,hL2,hL3,w1,w2,w3]
end Go.Proofs.YthpmkmogoejjpaaGreatDoor
set_option linter.unusedSimpArgs false
set_option linter.unusedVariables false
namespace Go.Proofs.YthpmkmogoejjpaaGreatDoor
open Go Go.VM
set_option maxRecDepth 100000
set_option maxHeartbeats 4000000
def gNil:GE:= {glob:=fun _=>none,ext:=fun _ _=>none}
theorem gNil_ok:EnvOk Tryz.prog (envG gNil):=envOk gNil (fun f args r h=>by cases h)
def secX:List V→Option Ret
 |[.d (.int .i64 y),.d (.int .i64 a),.d (.int .i64 d)]=>match decide (1950≤y∧y≤10000∧1≤a∧a≤12∧0≤d∧d≤40) with
  |true=>some ⟨[.d (.int .i64 ((yd y+md y a.toNat+d-1)*86400))],[]⟩
  |false=>none
 |_=>none
theorem nil_told {glob:Nat→Option (List D)} {f:FuncId} {args:List V} {r:Ret} {fn:Func} (hf:Tryz.prog.funcs[f]? =some fn) (hname:(fn.name== "runtime.NumGoroutine")=false) (hb:fn.body.isNone=false) (he:(envG gNil).ext f args=none)
  (h: ∃F n,callN (envG gNil) F n f args=some r):Sound Tryz.prog glob f args r:=by
 refine .inl ⟨⟨fn,hf,hname,hb⟩,fun cargs w own G gl hp bl=> ?_⟩
 obtain⟨F,n,hk⟩:=h
 exact(callN_soundB gNil_ok hk he).2 cargs w own G (fun g cs h=>by cases h) hp bl
theorem sec_sound {glob:Nat→Option (List D)} (args:List V) (r:Ret) (h:secX args=some r):Sound Tryz.prog glob 186 args r:=by
 unfold secX at h
 split at h
 rotate_left
 ·cases h
 rename_i y a d
 split at h
 rotate_left
 ·cases h
 rename_i hc
 obtain⟨h1,h2,h3,h4,h5,h6⟩:=of_decide_eq_true hc
 cases h
 obtain⟨a,rfl⟩:=Int.eq_ofNat_of_zero_le (show 0≤a by omega)
 refine nil_told Tryz.func186 (by kernel_rfl) (by kernel_rfl) rfl ⟨20000,2, ?_⟩
 exact t_Seconds (G:=gNil) (fun _=>rfl) 20000 0 (by omega) y h1 h2 a (by omega) (by omega) d h5 h6
end Go.Proofs.YthpmkmogoejjpaaGreatDoor
