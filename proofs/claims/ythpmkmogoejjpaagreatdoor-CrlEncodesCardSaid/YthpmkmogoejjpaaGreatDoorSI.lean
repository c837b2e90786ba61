/- The reference's numbers: From. -/
import Derived.Test.YthpmkmogoejjpaaGreatDoorSH
import Derived.Test.YthpmkmogoejjpaaGreatDoorVMU
import Derived.Test.YthpmkmogoejjpaaGreatDoorSF
import Derived.Test.YthpmkmogoejjpaaGreatDoorSG
import Derived.Test.YthpmkmogoejjpaaGreatDoorVMS
import Derived.Test.YthpmkmogoejjpaaGreatDoorSD
set_option linter.unusedSimpArgs false
set_option linter.unusedVariables false
namespace Go.Proofs.YthpmkmogoejjpaaGreatDoor
open Go Go.VM
variable {G : GE}
set_option maxRecDepth 100000
set_option maxHeartbeats 4000000
def mulV:Int→Nat→Int
 |v,0=>v
 |v,d+1=>mulV (IntKind.u64.wrap (v*256)) d
def fpart (b:List Int) (i q j:Nat):Int:=if 4*q+j<i then b.getD (b.length-1-(4*q+j)) 0*256^j else 0
def fdig (b:List Int) (i q:Nat):Int:=fpart b i q 0+fpart b i q 1+fpart b i q 2+fpart b i q 3
def fromL (b:List Int) (i:Nat):List Int:=(List.range (b.length/4+1)).map (fdig b i)
theorem getD_byte {b:List Int} (hb: ∀c∈b,0≤c∧c<256) (i:Nat):0≤b.getD i 0∧b.getD i 0<256:=by
 rcases Nat.lt_or_ge i b.length with h1|h1
 ·have:b.getD i 0=b[i]:=by simp[List.getD,h1]
  rw[this]
  exact hb _ (List.getElem_mem h1)
 ·have:b.getD i 0=0:=by simp[List.getD,List.getElem?_eq_none h1]
  omega
theorem fdig_in {b:List Int} (hb: ∀c∈b,0≤c∧c<256) (i q:Nat):0≤fdig b i q∧fdig b i q<4294967296:=by
 have h0:=getD_byte hb (b.length-1-(4*q+0))
 have h1:=getD_byte hb (b.length-1-(4*q+1))
 have h2:=getD_byte hb (b.length-1-(4*q+2))
 have h3:=getD_byte hb (b.length-1-(4*q+3))
 unfold fdig fpart
 simp only[Int.reducePow]
 split<;>split<;>split<;>split<;>omega
end Go.Proofs.YthpmkmogoejjpaaGreatDoor
set_option linter.unusedSimpArgs false
set_option linter.unusedVariables false
namespace Go.Proofs.YthpmkmogoejjpaaGreatDoor
open Go Go.VM
variable {G : GE}
set_option maxRecDepth 100000
set_option maxHeartbeats 4000000
end Go.Proofs.YthpmkmogoejjpaaGreatDoor
set_option linter.unusedSimpArgs false
set_option linter.unusedVariables false
namespace Go.Proofs.YthpmkmogoejjpaaGreatDoor
open Go Go.VM
variable {G : GE}
set_option maxRecDepth 100000
set_option maxHeartbeats 4000000
def numV (b:List Int):List Int:=match numB b with| .inl _=>[]| .inr ys=>ys
def numOk (b:List Int):Bool:=match numB b with| .inl _=>false| .inr _=>true
def limbs (b:List Int):List Int:=L6 fun i=>(List.replicate (48-b.length) 0++b).getD i 0
theorem six {l:List Int} (h:l.length=6): ∃a b c d e f,l=[a,b,c,d,e,f]:=by
 rcases l with _|⟨a,_|⟨b,_|⟨c,_|⟨d,_|⟨e,_|⟨f,_|⟨g,t⟩⟩⟩⟩⟩⟩⟩<;>simp at h
 exact⟨a,b,c,d,e,f,rfl⟩
end Go.Proofs.YthpmkmogoejjpaaGreatDoor
set_option linter.unusedSimpArgs false
set_option linter.unusedVariables false
namespace Go.Proofs.YthpmkmogoejjpaaGreatDoor
open Go Go.VM
set_option maxRecDepth 100000
set_option maxHeartbeats 4000000
def Tlv.plainOk:Tlv→Prop
 | .mk _ _ _ x4 x5 _ _=>(x4=true→x5=[])∧x5.length≤140737488355327∧ ∀x∈x5,0≤x∧x<256
def Tlv.bodyD:Tlv→D
 | .mk _ _ _ x4 x5 _ _=> .nums .u8 x4 x5
def Tlv.body:Tlv→List Int
 | .mk _ _ _ _ x5 _ _=>x5
def Tlv.bnil:Tlv→Bool
 | .mk _ _ _ x4 _ _ _=>x4
mutual
def Tlv.nilOk:Tlv→Prop
 | .mk _ _ _ bn b kn ks=>(bn=true→b=[])∧(kn=true→ks=[])∧Tlv.nilOkL ks
def Tlv.nilOkL:List Tlv→Prop
 |[]=>True
 |x::l=>x.nilOk∧Tlv.nilOkL l
end
theorem nilOk_mem {x:Tlv}: ∀ {l:List Tlv},Tlv.nilOkL l→x∈l→x.nilOk
 |y::l,hf,h=>by
  simp only[Tlv.nilOkL] at hf
  rcases List.mem_cons.1 h with rfl|h
  ·exact hf.1
  ·exact nilOk_mem hf.2 h
theorem kidsB_nil {g:Nat→Nat→Res (Tlv×Nat)} (hg: ∀i t x nx,g i t= .ok (x,nx)→x.nilOk): ∀(k fr to:Nat) (l:List Tlv),kidsB g k fr to= .ok l→Tlv.nilOkL l
 |0,fr,to,l,h=>by simp only[kidsB] at h;injection h with h;subst h;trivial
 |k+1,fr,to,l,h=>by
  simp only[kidsB] at h
  split at h
  ·split at h
   ·cases h
   ·rename_i x nx h1
    split at h
    ·cases h
    ·rename_i l' h2
     injection h with h;subst h
     exact⟨hg _ _ _ _ h1,kidsB_nil hg k _ _ _ h2⟩
  ·injection h with h;subst h;trivial
theorem elemB_nil {b:List Int}: ∀(d i stop:Nat) (x:Tlv) (nx:Nat),elemB b d i stop= .ok (x,nx)→x.nilOk
 |0,i,stop,x,nx,h=>by cases h
 |d+1,i,stop,x,nx,h=>by
  simp only[elemB] at h
  split at h
  ·cases h
  split at h
  ·cases h
  split at h
  ·cases h
  split at h
  ·split at h
   ·cases h
   ·rename_i l hl
    injection h with h;injection h with h1 h2;subst h1
    refine⟨fun _=>rfl,fun h=> ?_,kidsB_nil (fun i t x nx h=>elemB_nil d i t x nx h) _ _ _ _ hl⟩
    cases l with
    |nil=>rfl
    |cons a l=>cases h
  ·injection h with h;injection h with h1 h2;subst h1
   exact⟨fun h=>(by cases h),fun _=>rfl,trivial⟩
def Tlv.kids:Tlv→List Tlv
 | .mk _ _ _ _ _ _ ks=>ks
end Go.Proofs.YthpmkmogoejjpaaGreatDoor
set_option linter.unusedSimpArgs false
set_option linter.unusedVariables false
namespace Go.Proofs.YthpmkmogoejjpaaGreatDoor
open Go Go.VM
variable {G : GE}
set_option maxRecDepth 100000
set_option maxHeartbeats 4000000
def sigD (r s:List Int):D:= .agg ((r++s).map (.int .u64))
def noSig:D:=sigD [0,0,0,0,0,0] [0,0,0,0,0,0]
def Tlv.isNum:Tlv→Bool
 | .mk c t m _ b _ _=>decide (c=0∧t=2∧m=false) && numOk b
def rdOk (b:List Int):Bool:=decide (b.length≤48) && isScalar (limbs b)
def sigOf:Tlv→Sum Int (List Int×List Int)
 | .mk c t m _ _ _ [k0,k1]=>if c=0∧t=16∧m=true then(match k0.isNum && k1.isNum with
  |true=>(match rdOk (numV k0.body) && rdOk (numV k1.body) with
   |true=> .inr (limbs (numV k0.body),limbs (numV k1.body))
   |false=> .inl 3)
  |false=> .inl 7) else .inl 7
 |_=> .inl 7
def sigV:Res Tlv→List V
 | .bad c p=>[.d noSig,.d (atD c p)]
 | .ok x=>match sigOf x with
  | .inl e=>[.d noSig,.d (err e)]
  | .inr (r,s)=>[.d (sigD r s),.d .nilifc]
end Go.Proofs.YthpmkmogoejjpaaGreatDoor
