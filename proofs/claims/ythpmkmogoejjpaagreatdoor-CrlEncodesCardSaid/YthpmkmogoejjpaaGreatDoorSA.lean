/- errors.As at a target that is the address of a *api.Spot. -/
import Derived.Test.YthpmkmogoejjpaaGreatDoorProg
import Derived.WalkKit
import Derived.LaidEql
import Derived.Stop.Asserts
import Derived.RowKitTokens
import Derived.KernelRfl
import Derived.Below
import Derived.OneCell
set_option linter.unusedSimpArgs false
set_option linter.unusedVariables false
namespace Go.Proofs.YthpmkmogoejjpaaGreatDoor
open Go.RowKit Go.Extern.Stop Go.Stop Go.Extern
theorem as_nil (t:Value) (w:World):
  Calls Tryz.prog 77 #[.nilIface,t] w fun e w' =>e= .returned (.bool false)∧w' =w:=by
 go_enter Tryz.func77,Tryz.ntmps77
 go_wp2
 go_ret
 exact⟨rfl,rfl⟩
theorem As.valueOf27 (t:Addr) (w:World):(ReflectliteValue.unpack (.iface 127 (.pointer (some t)))).run Tryz.prog w
  = .ok (.agg #[.pointer (some ⟨7,127,none⟩),.pointer (some ⟨w.heap.size,0,none⟩),.int .u64 150]) (w.alloc (.cells #[.pointer (some t)] 127)):=by kernel_rfl
theorem As.type27 (a:Addr) (w:World):(ReflectliteValue.methodAny (ReflectliteValue.valueError "reflectlite.Value.Type" 0) (fun t _ _ _=>ReflectliteType.toType t) #[.agg #[.pointer (some ⟨7,127,none⟩),.pointer (some a),.int .u64 150]]).run Tryz.prog w
  = .ok (.iface 271 (.agg #[.pointer (some ⟨7,127,none⟩)])) w:=by kernel_rfl
theorem As.methodKind (h:Value) (w:World):(Go.method 451 271 (.agg #[h]) "Kind").run Tryz.prog w= .ok (278,h) w:=by kernel_rfl
theorem As.kind27 (w:World):((ReflectliteType.abiMethod fun t=>(fun a:Nat=>Value.int IntKind.u8 (a:Int))<$>Rtype.kind t) #[.pointer (some ⟨7,127,none⟩)]).run Tryz.prog w= .ok (.int .u8 22) w:=by kernel_rfl
theorem As.kind25 (w:World):((ReflectliteType.abiMethod fun t=>(fun a:Nat=>Value.int IntKind.u8 (a:Int))<$>Rtype.kind t) #[.pointer (some ⟨7,125,none⟩)]).run Tryz.prog w= .ok (.int .u8 22) w:=by kernel_rfl
theorem rlm (z:Sem Value) (f:TypeId→Addr→Nat→Nat→Sem Value) (v:Value):
  ReflectliteValue.method z f #[v]=(do match←ReflectliteValue.parts v with|none=>z|some (t,a,fl)=>f t a fl (fl % 32)):=rfl
theorem As.parts27 (a:Addr) (w:World):(ReflectliteValue.parts (.agg #[.pointer (some ⟨7,127,none⟩),.pointer (some a),.int .u64 150])).run Tryz.prog w= .ok (some (127,a,150)) w:=by kernel_rfl
theorem As.isNil27 (a p:Addr) (W:World) (ha:W.cell? a=some (.pointer (some p))):
  (ReflectliteValue.method (ReflectliteValue.valueError "reflectlite.Value.IsNil" 0) ReflectliteValue.isNil #[.agg #[.pointer (some ⟨7,127,none⟩),.pointer (some a),.int .u64 150]]).run Tryz.prog W= .ok (.bool false) W:=by
 rw[rlm]
 simp only[Sem.run_bind,As.parts27,Result.andThen]
 simp[ReflectliteValue.isNil,loadVar,isAgg,underlying,Tryz.underlying127,ha,Result.andThen]
theorem As.methodElem (h:Value) (w:World):(Go.method 451 271 (.agg #[h]) "Elem").run Tryz.prog w= .ok (290,.agg #[h]) w:=by kernel_rfl
theorem As.methodImplements (h:Value) (w:World):(Go.method 451 271 (.agg #[h]) "Implements").run Tryz.prog w= .ok (291,.agg #[h]) w:=by kernel_rfl
theorem As.methodAssignableTo (h:Value) (w:World):(Go.method 451 271 (.agg #[h]) "AssignableTo").run Tryz.prog w= .ok (288,.agg #[h]) w:=by kernel_rfl
theorem As.elem27 (w:World):(ReflectliteType.method ReflectliteType.elem #[.agg #[.pointer (some ⟨7,127,none⟩)]]).run Tryz.prog w= .ok (.iface 271 (.agg #[.pointer (some ⟨7,125,none⟩)])) w:=by kernel_rfl
theorem As.implements25 (w:World):(ReflectliteType.relation "Implements" ReflectliteType.implements_ #[.agg #[.pointer (some ⟨7,125,none⟩)],.iface 271 (.agg #[.pointer (some ⟨7,36,none⟩)])]).run Tryz.prog w= .ok (.bool true) w:=by kernel_rfl
theorem As.typeOf25 (v:Value) (w:World):(ReflectliteType.typeOf #[.iface 125 v]).run Tryz.prog w= .ok (.iface 271 (.agg #[.pointer (some ⟨7,125,none⟩)])) w:=by kernel_rfl
theorem As.assignable25 (w:World):(ReflectliteType.relation "AssignableTo" ReflectliteType.assignableTo #[.agg #[.pointer (some ⟨7,125,none⟩)],.iface 271 (.agg #[.pointer (some ⟨7,125,none⟩)])]).run Tryz.prog w= .ok (.bool true) w:=by kernel_rfl
theorem As.valueOf25 (e:Addr) (w:World):(ReflectliteValue.unpack (.iface 125 (.pointer (some e)))).run Tryz.prog w
  = .ok (.agg #[.pointer (some ⟨7,125,none⟩),.pointer (some ⟨w.heap.size,0,none⟩),.int .u64 150]) (w.alloc (.cells #[.pointer (some e)] 125)):=by kernel_rfl
theorem As.elemOf27 (w:World):(Rtype.elem? 127).run Tryz.prog w= .ok (some 125) w:=by kernel_rfl
theorem As.mk25 (p:Addr) (w:World):(ReflectliteValue.mk 125 p ReflectliteValue.flagAddr).run Tryz.prog w= .ok (.agg #[.pointer (some ⟨7,125,none⟩),.pointer (some p),.int .u64 406]) w:=by kernel_rfl
theorem As.elemV27 (a p:Addr) (W:World) (ha:W.cell? a=some (.pointer (some p))):
  (ReflectliteValue.method (ReflectliteValue.valueError "reflectlite.Value.Elem" 0) ReflectliteValue.elem #[.agg #[.pointer (some ⟨7,127,none⟩),.pointer (some a),.int .u64 150]]).run Tryz.prog W
   = .ok (.agg #[.pointer (some ⟨7,125,none⟩),.pointer (some p),.int .u64 406]) W:=by
 rw[rlm]
 simp only[Sem.run_bind,As.parts27,Result.andThen]
 simp[ReflectliteValue.elem,loadVar,isAgg,underlying,Tryz.underlying127,ha,Result.andThen,As.elemOf27,As.mk25]
theorem rls (v x:Value):ReflectliteValue.set #[v,x]=(do
  let (some (dst,a,fl),some (src,b,_)):=(←ReflectliteValue.parts v,←ReflectliteValue.parts x)
   |unsupported (.noEntry "extern/(internal/reflectlite.Value).Set.zeroValue")
  if fl/ReflectliteValue.flagAddr % 2==0 then unsupported (.noEntry "extern/(internal/reflectlite.Value).Set.unaddressable")
  let val←loadVar src b
  if←Rtype.directlyAssignable dst src then storeVar dst a val
  else if←Rtype.implements dst src then
   if(←Rtype.kind src)==20 then
    match val with
    | .nilIface=>unsupported (.noEntry "extern/reflectlite: a nil value of one interface type handed on as a value of another")
    |_=>storeVar dst a val
   else storeVar dst a (.iface src val)
  else panicString ("reflectlite.Set: value of type " ++(←Rtype.spelt src)++ " is not assignable to type " ++(←Rtype.spelt dst))
  pure (.tuple #[])):=rfl
theorem As.parts25a (a:Addr) (w:World):(ReflectliteValue.parts (.agg #[.pointer (some ⟨7,125,none⟩),.pointer (some a),.int .u64 406])).run Tryz.prog w= .ok (some (125,a,406)) w:=by kernel_rfl
theorem As.parts25 (a:Addr) (w:World):(ReflectliteValue.parts (.agg #[.pointer (some ⟨7,125,none⟩),.pointer (some a),.int .u64 150])).run Tryz.prog w= .ok (some (125,a,150)) w:=by kernel_rfl
theorem As.direct25 (w:World):(Rtype.directlyAssignable 125 125).run Tryz.prog w= .ok true w:=by kernel_rfl
theorem As.set25 (ta b e:Addr) (old:Value) (W:World) (hb:W.cell? b=some (.pointer (some e))) (ht:W.cell? ta=some old) (hf:W.frozen? ta=false):
  (ReflectliteValue.set #[.agg #[.pointer (some ⟨7,125,none⟩),.pointer (some ta),.int .u64 406],.agg #[.pointer (some ⟨7,125,none⟩),.pointer (some b),.int .u64 150]]).run Tryz.prog W
   = .ok (.tuple #[]) (W.setCell ta (.pointer (some e))):=by
 rw[rls]
 simp only[Sem.run_bind,As.parts25a,As.parts25,Result.andThen]
 simp[ReflectliteValue.flagAddr,loadVar,isAgg,underlying,Tryz.underlying125,hb,Result.andThen,As.direct25,storeVar,Value.cells,storeCells,Addr.add]
 rw[run_store Tryz.prog W ta _ _ (by rfl)]
 simp[ht,hf]
set_option maxHeartbeats 4000000 in
theorem as_hit (e t:Addr) (old:Value) (w:World) (hg:w.cell? ⟨3,0,none⟩=some (.iface 271 (.agg #[.pointer (some ⟨7,36,none⟩)]))) (ht0:w.cell? t=some old) (hf0:w.frozen? t=false):
  Calls Tryz.prog 77 #[.iface 125 (.pointer (some e)),.iface 127 (.pointer (some t))] w fun ev w' =>ev= .returned (.bool true)∧w' =((((w.alloc (.cells #[.pointer (some t)] 127)).alloc (.cells #[.pointer (some ⟨7,127,none⟩),.pointer (some ⟨w.heap.size,0,none⟩),.int .u64 150] 201)).alloc (.cells #[.pointer (some ⟨7,127,none⟩),.pointer (some ⟨w.heap.size,0,none⟩),.int .u64 150] 201)).alloc (.cells #[.pointer (some e)] 125)).setCell t (.pointer (some e)):=by
 have h6:= @run_callFunc_extern Tryz.prog 137 _ (fun args=>ReflectliteValue.unpack (args.getD 0 (.tuple #[]))) Tryz.func137 (by kernel_rfl) (by kernel_rfl) (by kernel_rfl) (by kernel_rfl)
 have h7:= @run_callFunc_extern Tryz.prog 138 _ (ReflectliteValue.methodAny (ReflectliteValue.valueError "reflectlite.Value.Type" 0) (fun t _ _ _=>ReflectliteType.toType t)) Tryz.func138 (by kernel_rfl) (by kernel_rfl) (by kernel_rfl) (by kernel_rfl)
 have h8:= @run_callFunc_extern Tryz.prog 139 _ (ReflectliteValue.method (ReflectliteValue.valueError "reflectlite.Value.IsNil" 0) ReflectliteValue.isNil) Tryz.func139 (by kernel_rfl) (by kernel_rfl) (by kernel_rfl) (by kernel_rfl)
 have h27:= @run_callFunc_extern Tryz.prog 278 _ (ReflectliteType.abiMethod fun t=>do pure (.int .u8 (←Rtype.kind t))) Tryz.func278 (by kernel_rfl) (by kernel_rfl) (by kernel_rfl) (by kernel_rfl)
 have h37:= @run_callFunc_extern Tryz.prog 290 _ (ReflectliteType.method ReflectliteType.elem) Tryz.func290 (by kernel_rfl) (by kernel_rfl) (by kernel_rfl) (by kernel_rfl)
 have h38:= @run_callFunc_extern Tryz.prog 291 _ (ReflectliteType.relation "Implements" ReflectliteType.implements_) Tryz.func291 (by kernel_rfl) (by kernel_rfl) (by kernel_rfl) (by kernel_rfl)
 have h10:= @run_callFunc_extern Tryz.prog 169 _ ReflectliteType.typeOf Tryz.func169 (by kernel_rfl) (by kernel_rfl) (by kernel_rfl) (by kernel_rfl)
 have h35:= @run_callFunc_extern Tryz.prog 288 _ (ReflectliteType.relation "AssignableTo" ReflectliteType.assignableTo) Tryz.func288 (by kernel_rfl) (by kernel_rfl) (by kernel_rfl) (by kernel_rfl)
 have h11:= @run_callFunc_extern Tryz.prog 207 _ (ReflectliteValue.method (ReflectliteValue.valueError "reflectlite.Value.Elem" 0) ReflectliteValue.elem) Tryz.func207 (by kernel_rfl) (by kernel_rfl) (by kernel_rfl) (by kernel_rfl)
 have h12:= @run_callFunc_extern Tryz.prog 208 _ ReflectliteValue.set Tryz.func208 (by kernel_rfl) (by kernel_rfl) (by kernel_rfl) (by kernel_rfl)
 have tO:=As.typeOf25
 have mA:=As.methodAssignableTo
 have a25:=As.assignable25
 have v25:=As.valueOf25
 have f6:=As.valueOf27
 have f7:=As.type27
 have mK:=As.methodKind
 have mE:=As.methodElem
 have mI:=As.methodImplements
 have k27:=As.kind27
 have k25:=As.kind25
 have e27:=As.elem27
 have i25:=As.implements25
 have n8:=As.isNil27 ⟨w.heap.size,0,none⟩ t ((w.alloc (.cells #[.pointer (some t)] 127)).alloc (.cells #[.pointer (some ⟨7,127,none⟩),.pointer (some ⟨w.heap.size,0,none⟩),.int .u64 150] 201)) (by simp)
 have hlt:3<w.heap.size:=by
  rcases Nat.lt_or_ge 3 w.heap.size with h|h0
  ·exact h
  ·simp[World.cell?,Array.getElem?_eq_none h0] at hg
 have hg2:((w.alloc (.cells #[.pointer (some t)] 127)).alloc (.cells #[.pointer (some ⟨7,127,none⟩),.pointer (some ⟨w.heap.size,0,none⟩),.int .u64 150] 201)).cell? ⟨3,0,none⟩=some (.iface 271 (.agg #[.pointer (some ⟨7,36,none⟩)])):=by
  rw[World.cell?_alloc_lt _ _ ⟨3,0,none⟩ (by simp<;>omega),World.cell?_alloc_lt _ _ ⟨3,0,none⟩ hlt];exact hg
 have htl:t.block<w.heap.size:=by
  rcases Nat.lt_or_ge t.block w.heap.size with h|h
  ·exact h
  ·simp[World.cell?,Array.getElem?_eq_none h] at ht0
 have el:=As.elemV27 ⟨w.heap.size,0,none⟩ t (((w.alloc (.cells #[.pointer (some t)] 127)).alloc (.cells #[.pointer (some ⟨7,127,none⟩),.pointer (some ⟨w.heap.size,0,none⟩),.int .u64 150] 201)).alloc (.cells #[.pointer (some ⟨7,127,none⟩),.pointer (some ⟨w.heap.size,0,none⟩),.int .u64 150] 201)) (by rw[World.cell?_alloc_lt _ _ ⟨w.heap.size,0,none⟩ (by simp<;>omega)];simp)
 have st:=As.set25 t ⟨w.heap.size+1+1+1,0,none⟩ e old ((((w.alloc (.cells #[.pointer (some t)] 127)).alloc (.cells #[.pointer (some ⟨7,127,none⟩),.pointer (some ⟨w.heap.size,0,none⟩),.int .u64 150] 201)).alloc (.cells #[.pointer (some ⟨7,127,none⟩),.pointer (some ⟨w.heap.size,0,none⟩),.int .u64 150] 201)).alloc (.cells #[.pointer (some e)] 125))
  (by rw[World.cell?_alloc_at _ _ _ _ (by simp)];rfl)
  (by rw[World.cell?_alloc_lt _ _ t (by simp<;>omega),World.cell?_alloc_lt _ _ t (by simp<;>omega),World.cell?_alloc_lt _ _ t (by simp<;>omega),World.cell?_alloc_lt _ _ t htl];exact ht0)
  (by rw[World.frozen?_alloc_old _ _ t (by simp<;>omega),World.frozen?_alloc_old _ _ t (by simp<;>omega),World.frozen?_alloc_old _ _ t (by simp<;>omega),World.frozen?_alloc_old _ _ t (Nat.ne_of_lt htl)];exact hf0)
 go_enter Tryz.func77,Tryz.ntmps77
 go_wp2
 refine wp_loop_rounds 1 ?_
 rw[rounds_succ]
 go_wp2
 go_ret
 exact⟨rfl,rfl⟩
end Go.Proofs.YthpmkmogoejjpaaGreatDoor
set_option linter.unusedSimpArgs false
set_option linter.unusedVariables false
namespace Go.Proofs.YthpmkmogoejjpaaGreatDoor
open Go.RowKit Go.Extern.Stop Go.Stop Go.Extern
theorem As.typeOfC (v:Value) (w:World):(ReflectliteType.typeOf #[.iface 39 v]).run Tryz.prog w= .ok (.iface 271 (.agg #[.pointer (some ⟨7,39,none⟩)])) w:=by kernel_rfl
theorem As.assignableC (w:World):(ReflectliteType.relation "AssignableTo" ReflectliteType.assignableTo #[.agg #[.pointer (some ⟨7,39,none⟩)],.iface 271 (.agg #[.pointer (some ⟨7,125,none⟩)])]).run Tryz.prog w= .ok (.bool false) w:=by kernel_rfl
theorem As.noAsC (v:Value) (xT:TypeId) (w:World):(Instr.typeAssert (.iface 39 v) xT 275 true).run Tryz.prog w= .ok (.tuple #[.nilIface,.bool false]) w:=run_typeAssert_lacksB Tryz.underlying275 (by kernel_rfl) (by kernel_rfl) v xT w
theorem As.noUnwrapC (v:Value) (xT:TypeId) (w:World):(Instr.typeAssert (.iface 39 v) xT 278 true).run Tryz.prog w= .ok (.tuple #[.nilIface,.bool false]) w:=run_typeAssert_lacksB Tryz.underlying278 (by kernel_rfl) (by kernel_rfl) v xT w
theorem As.noUnwrapsC (v:Value) (xT:TypeId) (w:World):(Instr.typeAssert (.iface 39 v) xT 280 true).run Tryz.prog w= .ok (.tuple #[.nilIface,.bool false]) w:=run_typeAssert_lacksB Tryz.underlying280 (by kernel_rfl) (by kernel_rfl) v xT w
theorem As.noIsC (v:Value) (xT:TypeId) (w:World):(Instr.typeAssert (.iface 39 v) xT 293 true).run Tryz.prog w= .ok (.tuple #[.nilIface,.bool false]) w:=run_typeAssert_lacksB Tryz.underlying293 (by kernel_rfl) (by kernel_rfl) v xT w
theorem As.noIsS (v:Value) (xT:TypeId) (w:World):(Instr.typeAssert (.iface 125 v) xT 293 true).run Tryz.prog w= .ok (.tuple #[.nilIface,.bool false]) w:=run_typeAssert_lacksB Tryz.underlying293 (by kernel_rfl) (by kernel_rfl) v xT w
theorem As.hasUnwrapS (v:Value) (xT:TypeId) (w:World):(Instr.typeAssert (.iface 125 v) xT 278 true).run Tryz.prog w= .ok (.tuple #[.iface 125 v,.bool true]) w:=run_typeAssert_hasB Tryz.underlying278 (by kernel_rfl) v xT w
theorem As.methodUnwrap (v:Value) (w:World):(Go.method 451 125 v "Unwrap").run Tryz.prog w= .ok (283,v) w:=by kernel_rfl
theorem As.comparableC (w:World):((ReflectliteType.method fun t=>do Rtype.noPackHeld "Comparable" t;(fun a=>Value.bool a.comparable)<$>typeInfo t) #[.agg #[.pointer (some ⟨7,39,none⟩)]]).run Tryz.prog w= .ok (.bool true) w:=by kernel_rfl
theorem As.methodComparable (v:Value) (w:World):(Go.method 451 271 v "Comparable").run Tryz.prog w= .ok (289,v) w:=by kernel_rfl
theorem As.compC:(Tryz.prog.info? 39).map (·.comparable)=some true:=by kernel_rfl
theorem As.eqlC (a b:Int) (w:World):(binOp .eql 36 (.iface 39 (.int .i64 a)) (.iface 39 (.int .i64 b))).run Tryz.prog w= .ok (.bool (a==b)) w:=by
 obtain⟨i,hi,hcmp⟩:=Option.map_eq_some_iff.1 As.compC
 have h: ∀d:Nat,(Op.equalIn (d+2) 36 (.iface 39 (.int .i64 a)) (.iface 39 (.int .i64 b))).run Tryz.prog w= .ok (a==b) w:=fun d=>by
  simp[Op.equalIn,run_underlying Tryz.underlying36,run_underlying Tryz.underlying39,typeInfo,hi,hcmp]
 simp only[binOp]
 simp[Op.equal,Op.maxDepth,h 9998]
set_option maxHeartbeats 4000000 in
theorem as_miss (c:Int) (t:Addr) (old:Value) (w:World) (hg:w.cell? ⟨3,0,none⟩=some (.iface 271 (.agg #[.pointer (some ⟨7,36,none⟩)]))) (ht0:w.cell? t=some old) (hf0:w.frozen? t=false):
  Calls Tryz.prog 77 #[.iface 39 (.int .i64 c),.iface 127 (.pointer (some t))] w fun ev w' =>ev= .returned (.bool false)∧w' =(((w.alloc (.cells #[.pointer (some t)] 127)).alloc (.cells #[.pointer (some ⟨7,127,none⟩),.pointer (some ⟨w.heap.size,0,none⟩),.int .u64 150] 201)).alloc (.cells #[.pointer (some ⟨7,127,none⟩),.pointer (some ⟨w.heap.size,0,none⟩),.int .u64 150] 201)):=by
 have h6:= @run_callFunc_extern Tryz.prog 137 _ (fun args=>ReflectliteValue.unpack (args.getD 0 (.tuple #[]))) Tryz.func137 (by kernel_rfl) (by kernel_rfl) (by kernel_rfl) (by kernel_rfl)
 have h7:= @run_callFunc_extern Tryz.prog 138 _ (ReflectliteValue.methodAny (ReflectliteValue.valueError "reflectlite.Value.Type" 0) (fun t _ _ _=>ReflectliteType.toType t)) Tryz.func138 (by kernel_rfl) (by kernel_rfl) (by kernel_rfl) (by kernel_rfl)
 have h8:= @run_callFunc_extern Tryz.prog 139 _ (ReflectliteValue.method (ReflectliteValue.valueError "reflectlite.Value.IsNil" 0) ReflectliteValue.isNil) Tryz.func139 (by kernel_rfl) (by kernel_rfl) (by kernel_rfl) (by kernel_rfl)
 have h27:= @run_callFunc_extern Tryz.prog 278 _ (ReflectliteType.abiMethod fun t=>do pure (.int .u8 (←Rtype.kind t))) Tryz.func278 (by kernel_rfl) (by kernel_rfl) (by kernel_rfl) (by kernel_rfl)
 have h37:= @run_callFunc_extern Tryz.prog 290 _ (ReflectliteType.method ReflectliteType.elem) Tryz.func290 (by kernel_rfl) (by kernel_rfl) (by kernel_rfl) (by kernel_rfl)
 have h38:= @run_callFunc_extern Tryz.prog 291 _ (ReflectliteType.relation "Implements" ReflectliteType.implements_) Tryz.func291 (by kernel_rfl) (by kernel_rfl) (by kernel_rfl) (by kernel_rfl)
 have h10:= @run_callFunc_extern Tryz.prog 169 _ ReflectliteType.typeOf Tryz.func169 (by kernel_rfl) (by kernel_rfl) (by kernel_rfl) (by kernel_rfl)
 have h35:= @run_callFunc_extern Tryz.prog 288 _ (ReflectliteType.relation "AssignableTo" ReflectliteType.assignableTo) Tryz.func288 (by kernel_rfl) (by kernel_rfl) (by kernel_rfl) (by kernel_rfl)
 have h11:= @run_callFunc_extern Tryz.prog 207 _ (ReflectliteValue.method (ReflectliteValue.valueError "reflectlite.Value.Elem" 0) ReflectliteValue.elem) Tryz.func207 (by kernel_rfl) (by kernel_rfl) (by kernel_rfl) (by kernel_rfl)
 have h12:= @run_callFunc_extern Tryz.prog 208 _ ReflectliteValue.set Tryz.func208 (by kernel_rfl) (by kernel_rfl) (by kernel_rfl) (by kernel_rfl)
 have tO:=As.typeOf25
 have mA:=As.methodAssignableTo
 have a25:=As.assignable25
 have v25:=As.valueOf25
 have f6:=As.valueOf27
 have f7:=As.type27
 have mK:=As.methodKind
 have mE:=As.methodElem
 have mI:=As.methodImplements
 have k27:=As.kind27
 have k25:=As.kind25
 have e27:=As.elem27
 have i25:=As.implements25
 have n8:=As.isNil27 ⟨w.heap.size,0,none⟩ t ((w.alloc (.cells #[.pointer (some t)] 127)).alloc (.cells #[.pointer (some ⟨7,127,none⟩),.pointer (some ⟨w.heap.size,0,none⟩),.int .u64 150] 201)) (by simp)
 have hlt:3<w.heap.size:=by
  rcases Nat.lt_or_ge 3 w.heap.size with h|h0
  ·exact h
  ·simp[World.cell?,Array.getElem?_eq_none h0] at hg
 have hg2:((w.alloc (.cells #[.pointer (some t)] 127)).alloc (.cells #[.pointer (some ⟨7,127,none⟩),.pointer (some ⟨w.heap.size,0,none⟩),.int .u64 150] 201)).cell? ⟨3,0,none⟩=some (.iface 271 (.agg #[.pointer (some ⟨7,36,none⟩)])):=by
  rw[World.cell?_alloc_lt _ _ ⟨3,0,none⟩ (by simp<;>omega),World.cell?_alloc_lt _ _ ⟨3,0,none⟩ hlt];exact hg
 have htl:t.block<w.heap.size:=by
  rcases Nat.lt_or_ge t.block w.heap.size with h|h
  ·exact h
  ·simp[World.cell?,Array.getElem?_eq_none h] at ht0
 have el:=As.elemV27 ⟨w.heap.size,0,none⟩ t (((w.alloc (.cells #[.pointer (some t)] 127)).alloc (.cells #[.pointer (some ⟨7,127,none⟩),.pointer (some ⟨w.heap.size,0,none⟩),.int .u64 150] 201)).alloc (.cells #[.pointer (some ⟨7,127,none⟩),.pointer (some ⟨w.heap.size,0,none⟩),.int .u64 150] 201)) (by rw[World.cell?_alloc_lt _ _ ⟨w.heap.size,0,none⟩ (by simp<;>omega)];simp)
 have tC:=As.typeOfC
 have aC:=As.assignableC
 have n1:=As.noAsC
 have n2:=As.noUnwrapC
 have n3:=As.noUnwrapsC
 go_enter Tryz.func77,Tryz.ntmps77
 go_wp2
 refine wp_loop_rounds 1 ?_
 rw[rounds_succ]
 go_wp2
 go_ret
 exact⟨rfl,rfl⟩
set_option maxRecDepth 100000 in
set_option maxHeartbeats 4000000 in
theorem is_spot (pb po:Nat) (c' c:Int) (w:World) (h1:w.cell? ⟨pb,po+1,none⟩=some (.iface 39 (.int .i64 c'))):
  Calls Tryz.prog 104 #[.iface 125 (.pointer (some ⟨pb,po,none⟩)),.iface 39 (.int .i64 c)] w fun e w' =>e= .returned (.bool (c' ==c))∧w' =w:=by
 have h8:= @run_callFunc_extern Tryz.prog 169 _ ReflectliteType.typeOf Tryz.func169 (by kernel_rfl) (by kernel_rfl) (by kernel_rfl) (by kernel_rfl)
 have h32:= @run_callFunc_extern Tryz.prog 289 _ (ReflectliteType.method fun t=>do Rtype.noPackHeld "Comparable" t;pure (.bool (←typeInfo t).comparable)) Tryz.func289 (by kernel_rfl) (by kernel_rfl) (by kernel_rfl) (by kernel_rfl)
 have tT:=As.typeOfC
 have cT:=As.comparableC
 have mR:=As.methodComparable
 have nE:=As.noIsC
 have uE:=As.noUnwrapC
 have vE:=As.noUnwrapsC
 have nW:=As.noIsS
 have uW:=As.hasUnwrapS
 have mU:=As.methodUnwrap
 have heq:=As.eqlC c' c
 have hty:=run_eql_iface_types (P:=Tryz.prog) 125 39 (.pointer (some ⟨pb,po,none⟩)) (.int .i64 c) Tryz.underlying36 (by decide) w
 by_cases hc:c' =c
 ·subst hc
  rw[beq_self_eq_true] at heq⊢
  go_enter Tryz.func104,Tryz.ntmps104
  go_wp2
  refine wp_loop_rounds 2 ?_
  rw[rounds_succ]
  go_wp2
  rw[rounds_succ]
  go_wp2
  go_ret
  exact⟨rfl,rfl⟩
 ·rw[beq_eq_false_iff_ne.2 hc] at heq⊢
  go_enter Tryz.func104,Tryz.ntmps104
  go_wp2
  refine wp_loop_rounds 2 ?_
  rw[rounds_succ]
  go_wp2
  rw[rounds_succ]
  go_wp2
  go_ret
  exact⟨rfl,rfl⟩
end Go.Proofs.YthpmkmogoejjpaaGreatDoor
set_option linter.unusedSimpArgs false
set_option linter.unusedVariables false
namespace Go.Proofs.YthpmkmogoejjpaaGreatDoor
open Go.RowKit Go.Extern.Stop Go.Stop Go.Extern
theorem As.spotComp:(Tryz.prog.info? 125).map (·.comparable)=some true:=by kernel_rfl
theorem As.spotInfo:(Tryz.prog.info? 129).isSome=true:=by kernel_rfl
set_option maxRecDepth 100000 in
set_option maxHeartbeats 4000000 in
theorem is0_nil (p c:Int) (w:World):
  Calls Tryz.prog 46 #[.nilIface,.int .i64 p,.int .i64 c] w fun e w' =>e= .returned (.bool false)∧w' =w.alloc (.cells #[.pointer none] 125):=by
 go_enter Tryz.func46,Tryz.ntmps46
 go_wp2_with (first|(go_at_call 77;refine(as_nil _ _).mono ?_;rintro e w' ⟨rfl,rfl⟩))
 go_ret
 exact⟨rfl,rfl⟩
set_option maxRecDepth 100000 in
set_option maxHeartbeats 4000000 in
theorem is0_code (k p c:Int) (w:World) (hg:w.cell? ⟨3,0,none⟩=some (.iface 271 (.agg #[.pointer (some ⟨7,36,none⟩)]))):
  Calls Tryz.prog 46 #[.iface 39 (.int .i64 k),.int .i64 p,.int .i64 c] w fun e w' =>e= .returned (.bool false)∧Below w.heap.size w w' :=by
 have hlt:3<w.heap.size:=by
  rcases Nat.lt_or_ge 3 w.heap.size with h|h0
  ·exact h
  ·simp[World.cell?,Array.getElem?_eq_none h0] at hg
 have hgA:(w.alloc (.cells #[.pointer none] 125)).cell? ⟨3,0,none⟩=some (.iface 271 (.agg #[.pointer (some ⟨7,36,none⟩)])):=by
  rw[World.cell?_alloc_lt _ _ ⟨3,0,none⟩ hlt];exact hg
 have htA:(w.alloc (.cells #[.pointer none] 125)).cell? ⟨w.heap.size,0,none⟩=some (.pointer none):=by simp
 have hfA:(w.alloc (.cells #[.pointer none] 125)).frozen? ⟨w.heap.size,0,none⟩=false:=by simp
 go_enter Tryz.func46,Tryz.ntmps46
 go_wp2_with (first|(go_at_call 77;refine(as_miss _ _ (.pointer none) _ hgA htA hfA).mono ?_;rintro e w' ⟨rfl,rfl⟩))
 go_ret
 refine⟨rfl, ?_⟩
 exact((((Below.refl _ _).alloc (Nat.le_refl _) _).alloc (by simp) _).alloc (by simp<;>omega) _).alloc (by simp<;>omega) _
set_option maxRecDepth 100000 in
set_option maxHeartbeats 4000000 in
theorem as_hit2 (e t:Addr) (old:Value) (w0 w:World) (hB:Below w0.heap.size w0 w) (hBt:w0.heap.size≤t.block)
  (hg:w.cell? ⟨3,0,none⟩=some (.iface 271 (.agg #[.pointer (some ⟨7,36,none⟩)]))) (ht0:w.cell? t=some old) (hf0:w.frozen? t=false) (hfree: ∀W:World,w.heap.size≤W.heap.size→(∀k,k<w.heap.size→W.heap[k]? =w.heap[k]?)→(W.setCell t (.pointer (some e))).cell? t=some (.pointer (some e))):
  Calls Tryz.prog 77 #[.iface 125 (.pointer (some e)),.iface 127 (.pointer (some t))] w fun ev w' =>ev= .returned (.bool true)∧Below w0.heap.size w0 w' ∧w'.cell? t=some (.pointer (some e)):=by
 refine(as_hit e t old w hg ht0 hf0).mono ?_
 rintro ev w' ⟨rfl,rfl⟩
 have hs:=hB.size
 refine⟨rfl,Below.setCell ((((hB.alloc hs _).alloc (by simp<;>omega) _).alloc (by simp<;>omega) _).alloc (by simp<;>omega) _) hBt _,hfree _ (by simp<;>omega) (fun k hk=> ?_)⟩
 rw[Below.heap_alloc _ _ _ (by simp<;>omega),Below.heap_alloc _ _ _ (by simp<;>omega),Below.heap_alloc _ _ _ (by simp<;>omega),Below.heap_alloc _ _ _ hk]
set_option maxRecDepth 100000 in
set_option maxHeartbeats 4000000 in
theorem is0_spot (pb po:Nat) (q k p c:Int) (w:World) (hg:w.cell? ⟨3,0,none⟩=some (.iface 271 (.agg #[.pointer (some ⟨7,36,none⟩)])))
  (h0:w.cell? ⟨pb,po,none⟩=some (.int .i64 q)) (h1:w.cell? ⟨pb,po+1,none⟩=some (.iface 39 (.int .i64 k))):
  Calls Tryz.prog 46 #[.iface 125 (.pointer (some ⟨pb,po,none⟩)),.int .i64 p,.int .i64 c] w fun e w' =>e= .returned (.bool (decide (q=p∧k=c)))∧Below w.heap.size w w' :=by
 have hlt:3<w.heap.size:=by
  rcases Nat.lt_or_ge 3 w.heap.size with h|h0
  ·exact h
  ·simp[World.cell?,Array.getElem?_eq_none h0] at hg
 have hpb:pb<w.heap.size:=by
  rcases Nat.lt_or_ge pb w.heap.size with h|h2
  ·exact h
  ·simp[World.cell?,Array.getElem?_eq_none h2] at h0
 have hgA:(w.alloc (.cells #[.pointer none] 125)).cell? ⟨3,0,none⟩=some (.iface 271 (.agg #[.pointer (some ⟨7,36,none⟩)])):=by
  rw[World.cell?_alloc_lt _ _ ⟨3,0,none⟩ hlt];exact hg
 have htA:(w.alloc (.cells #[.pointer none] 125)).cell? ⟨w.heap.size,0,none⟩=some (.pointer none):=by simp
 have hfA:(w.alloc (.cells #[.pointer none] 125)).frozen? ⟨w.heap.size,0,none⟩=false:=by simp
 have hBA:Below w.heap.size w (w.alloc (.cells #[.pointer none] 125)):=(Below.refl _ _).alloc (Nat.le_refl _) _
 have hfr: ∀W:World,(w.alloc (.cells #[.pointer none] 125)).heap.size≤W.heap.size→(∀k,k<(w.alloc (.cells #[.pointer none] 125)).heap.size→W.heap[k]? =(w.alloc (.cells #[.pointer none] 125)).heap[k]?)→
   (W.setCell ⟨w.heap.size,0,none⟩ (.pointer (some ⟨pb,po,none⟩))).cell? ⟨w.heap.size,0,none⟩=some (.pointer (some ⟨pb,po,none⟩)):=by
  intro W hW hk
  have h2:=hk w.heap.size (by simp)
  have h4:W.heap[w.heap.size]? =some (.cells #[.pointer none] 125 (0,0)):=h2.trans (show (w.heap.push _)[w.heap.size]? =_ from Array.getElem?_push_size ..)
  have h5:=one_setCell (u:= .pointer (some ⟨pb,po,none⟩)) h4
  simp[World.cell?,h5]
 obtain⟨i,hi,hcmp⟩:=Option.map_eq_some_iff.1 As.spotComp
 obtain⟨j,hj⟩:=Option.isSome_iff_exists.1 As.spotInfo
 have heq:=fun W:World=>run_eql_iface_ptr_same (P:=Tryz.prog) W ⟨pb,po,none⟩ Tryz.underlying36 Tryz.underlying125 hi hcmp hj
 have hne: ∀W:World,(binOp .neq 36 (.iface 125 (.pointer (some ⟨pb,po,none⟩))) (.iface 125 (.pointer (some ⟨pb,po,none⟩)))).run Tryz.prog W= .ok (.bool false) W:=fun W=>by
  simp only[binOp]
  simp[Op.equal,Op.maxDepth,run_equalIn_iface_ptr_same W 9998 ⟨pb,po,none⟩ Tryz.underlying36 Tryz.underlying125 hi hcmp hj]
 by_cases hc:k=c
 ·subst hc
  have hek:=fun W:World=>As.eqlC k k W
  simp only[beq_self_eq_true] at hek
  by_cases hq:q=p
  ·subst hq
   rw[decide_eq_true (⟨rfl,rfl⟩:q=q∧k=k)]
   have hbk:(k==k)=true:=beq_self_eq_true k
   go_enter Tryz.func46,Tryz.ntmps46
   go_wp2_with (first
    |(go_at_call 77;refine(as_hit2 _ _ (.pointer none) w _ hBA (Nat.le_refl _) hgA htA hfA hfr).mono ?_;rintro e w' ⟨rfl,hB,hcell⟩;have hc0:=(hB.cell (p:=⟨pb,po,none⟩) hpb).trans h0;have hc1:=(hB.cell (p:=⟨pb,po+1,none⟩) hpb).trans h1)
    |(go_at_call 104;refine(is_spot pb po k k _ hc1).mono ?_;rintro e w'' ⟨rfl,rfl⟩))
   go_ret
   exact⟨rfl,hB⟩
  ·rw[decide_eq_false (fun h:q=p∧k=k=>hq h.1)]
   have hbk:(k==k)=true:=beq_self_eq_true k
   have hbq:(q==p)=false:=beq_eq_false_iff_ne.2 hq
   go_enter Tryz.func46,Tryz.ntmps46
   go_wp2_with (first
    |(go_at_call 77;refine(as_hit2 _ _ (.pointer none) w _ hBA (Nat.le_refl _) hgA htA hfA hfr).mono ?_;rintro e w' ⟨rfl,hB,hcell⟩;have hc0:=(hB.cell (p:=⟨pb,po,none⟩) hpb).trans h0;have hc1:=(hB.cell (p:=⟨pb,po+1,none⟩) hpb).trans h1)
    |(go_at_call 104;refine(is_spot pb po k k _ hc1).mono ?_;rintro e w'' ⟨rfl,rfl⟩))
   go_ret
   exact⟨rfl,hB⟩
 ·rw[decide_eq_false (fun h:q=p∧k=c=>hc h.2)]
  have hbk:(k==c)=false:=beq_eq_false_iff_ne.2 hc
  go_enter Tryz.func46,Tryz.ntmps46
  go_wp2_with (first
   |(go_at_call 77;refine(as_hit2 _ _ (.pointer none) w _ hBA (Nat.le_refl _) hgA htA hfA hfr).mono ?_;rintro e w' ⟨rfl,hB,hcell⟩;have hc0:=(hB.cell (p:=⟨pb,po,none⟩) hpb).trans h0;have hc1:=(hB.cell (p:=⟨pb,po+1,none⟩) hpb).trans h1)
   |(go_at_call 104;refine(is_spot pb po k c _ hc1).mono ?_;rintro e w'' ⟨rfl,rfl⟩))
  go_ret
  exact⟨rfl,hB⟩
end Go.Proofs.YthpmkmogoejjpaaGreatDoor
