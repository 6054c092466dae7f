/- After a crash the log has the records of the groups that are there and no others, with their numbers and data; the conditions are those of the given statement, for arguments that a machine can hold. Part 6 of 54. -/
import Derived.Test.YtconhghphklfjaaGreatL05
namespace Go.Proofs.YtconhghphklfjaaGreat.Am
open Go
section
variable {P:Program} {c:Ctx} {σ:H} {w:World}
def eL (P:Program)(s:Sem Value)(c:Ctx)(w:World)(v:V)(J:H): Prop :=
 ∃w' I,s.run P w=.ok (conc I v) w'∧wf I v∧Rel I J w'∧cm c w I w'
def HD (P:Program)(s:Sem Unit)(c:Ctx)(w:World)(I:H): Prop :=
 ∃w' J,s.run P w=.ok () w'∧Rel J I w'∧cm c w J w'
theorem eL.same {s:Sem Value}{v:V}(h:Rel c σ w)(I:s.run P w=.ok (conc c v) w∧wf c v): eL P s c w v σ :=
 ⟨w,c,I.1,I.2,h,cm.refl c w⟩
theorem mT {cs:List V}(h:Rel c σ w)(I:∀v∈cs,wf c v∧storable v=true)(e:TypeId):
  Rel (c.grow w.heap.size 0 cs.length) (newRow σ cs) (w.alloc (.cells (cs.map (conc c)).toArray e))∧cm c w (c.grow w.heap.size 0 cs.length) (w.alloc (.cells (cs.map (conc c)).toArray e)):=by
 have:=h.newRow I e []
 simpa [newRow] using this
theorem zh (c:Ctx)(b size:Nat): conc (c.grow b 0 size) (.ptr c.N 0)=.pointer (some ⟨b,0,none⟩):=by
 simp [conc,aP]
theorem EW {t:TypeId}{z:V}(h:Rel c σ w)(I:zeroT P t=some z):
  eL P (Instr.alloc t true (.tuple #[])) c w (.ptr σ.next 0) (newRow σ z.cells):=by
 obtain ⟨U,z2⟩:=dI I c w
 obtain ⟨g1,g2⟩:=mT h (fun v J=>⟨gM z2 v J,iB I v J⟩) t
 refine ⟨_,_,?_,?_,g1,g2⟩
 ·rw [h.next,zh]
  simp [Instr.alloc,U,newVar,Go.newRow,dg]
 ·simp [wf,h.next,g8]
theorem KP {t:TypeId}{v:V}(h:Rel c σ w)(J:wf c v)(hs:v.cells.all storable=true):
  eL P (Instr.box t (conc c v)) c w (.ptr σ.next 0) (newRow σ v.cells):=by
 obtain ⟨U,g2⟩:=mT h (fun x I=>⟨gM J x I,(List.all_eq_true.1 hs) x I⟩) t
 refine ⟨_,_,?_,?_,U,g2⟩
 ·rw [h.next,zh]
  simp [Instr.box,newVar,Go.newRow,dg]
 ·simp [wf,h.next,g8]
theorem jE (z:List V)(n:Nat): (repeatL z n).length=n*z.length:=by
 induction n with
 | zero=>simp [repeatL]
 | succ n I=>simp [repeatL,I,Nat.succ_mul,Nat.add_comm]
theorem Bq (z:List V)(n:Nat): ∀i,i<n*z.length→(repeatL z n)[i]?=z[i%z.length]?:=by
 induction n with
 | zero=>intro i hi; simp at hi
 | succ n J =>
  intro i hi
  rw [Nat.succ_mul] at hi
  simp only [repeatL]
  by_cases I:i<z.length
  ·rw [List.getElem?_append_left I,Nat.mod_eq_of_lt I]
  ·rw [List.getElem?_append_right (by omega),J _ (by omega)]
   congr 1
   have:=Nat.mod_eq_sub_mod (show i≥z.length by omega)
   rw [this]
theorem ic {z:List V}{n:Nat}{v:V}(h:v∈repeatL z n): v∈z:=by
 induction n with
 | zero=>simp [repeatL] at h
 | succ n I =>
  simp only [repeatL,List.mem_append] at h
  rcases h with h | h
  ·exact h
  ·exact I h
theorem kT (c:Ctx)(z:List V)(n:Nat)(U:1≤z.length):
  ((Array.range (n*z.length)).map fun i=>((z.map (conc c)).toArray)[i%((z.map (conc c)).toArray).size]!)=((repeatL z n).map (conc c)).toArray:=by
 apply Array.ext_getElem?
 intro i
 by_cases hi:i<n*z.length
 ·have I:i%z.length<z.length:=Nat.mod_lt _ U
  have J:=Bq z n i hi
  rw [List.getElem?_eq_getElem I] at J
  simp only [Array.getElem?_map,Array.getElem?_range,hi,if_true,Option.map_some,List.size_toArray,List.length_map,List.getElem?_toArray,List.getElem?_map,J]
  congr 1
  rw [getElem!_pos _ _ (by simpa using I)]
  simp
 ·have h3:(repeatL z n).length≤i:=by rw [jE]; omega
  simp [hi,h3]
theorem uP {t:TypeId}{n:Nat}{l:List (Nat×V)}{v:V}{J:H}(h:Rel c σ w)(I:buildSliceV P σ t n l=some (v,J))(hl:∀x∈l,wf c x.2):
  eL P (Instr.buildSlice t n (l.map fun x=>(x.1,conc c x.2)).toArray) c w v J:=by
 unfold buildSliceV at I
 generalize ht:P.underlying t=dt at I
 split at I
 ·rename_i e
  cases U:aY P e with
  | none=>simp [U] at I
  | some k =>
   cases hz:zeroT P e with
   | none=>simp [U,hz] at I
   | some z =>
    simp only [U,hz] at I
    cases hq:(Nat.beq z.cells.length k&&Nat.ble (n*k) 65536&&Nat.ble 1 k) with
    | false=>simp [hq] at I
    | true =>
     simp only [hq,cond_true] at I
     simp only [Bool.and_eq_true,beq_iff,ay] at hq
     obtain ⟨⟨q1,q2⟩,q3⟩:=hq
     obtain ⟨z1,z2⟩:=dI hz c w
     cases hf:fillV (fun i=>some (i*k,k)) (repeatL z.cells n) l with
     | none=>simp [hf] at I
     | some cs =>
      simp only [hf] at I
      cases hs:cs.all storable with
      | false=>simp [hs] at I
      | true =>
       simp only [hs,cond_true,Option.some.injEq,Prod.mk.injEq] at I
       obtain ⟨rfl,rfl⟩:=I
       obtain ⟨f1,f2,f3⟩:=wk (c:=c) _ l _ cs hf (fun v hv=>gM z2 v (ic hv)) hl
       obtain ⟨g1,g2⟩:=mT h (fun v hv=>⟨f2 v hv,(List.all_eq_true.1 hs) v hv⟩) e
       refine ⟨_,_,?_,?_,g1,g2⟩
       ·have SB:¬ (n*k>2^24):=by omega
        have tF:((Array.range (n*k)).map fun i=>((z.cells.map (conc c)).toArray)[i%((z.cells.map (conc c)).toArray).size]!)=((repeatL z.cells n).map (conc c)).toArray:=by
         rw [←q1]; exact kT c z.cells n (by omega)
        by_cases h0:n*k=0
        ·have kx:(repeatL z.cells n)=[]:=by
          have:(repeatL z.cells n).length=0:=by rw [jE,q1]; exact h0
          exact List.length_eq_zero_iff.1 this
         rw [kx] at f1
         simp only [List.map_nil] at f1
         simp only [Instr.buildSlice,Sem.run_bind,run_underlying ht,Result.andThen_ok,bS U,h0,if_true]
         have tG:(Array.map (fun (_:Nat)=>(default:Value)) (Array.range 0)) = #[]:=by simp [Array.range]
         simp [tG,f1,Go.newRow,h.next,conc,aP]
        ·simp only [Instr.buildSlice,Sem.run_bind,run_underlying ht,Result.andThen_ok,bS U,SB,if_false,h0,Sem.run_pure,z1,dg,tF,f1]
         simp [Go.newRow,h.next,conc,aP]
       ·simp [wf,h.next,g8]
 ·simp at I
theorem rf (c:Ctx){l:List Nat}(I:∀x∈l,x<256): ((⟨(l.map UInt8.ofNat).toArray⟩:ByteArray).data.map fun b=>Value.int .u8 b.toNat)=((ofBytes l).map (conc c)).toArray:=by
 simp only [List.map_toArray,ofBytes,List.map_map]
 congr 1
 refine List.map_congr_left fun x J => ?_
 simp [conc,UInt8.toNat_ofNat',Nat.mod_eq_of_lt (I x J)]
theorem oK {l:List Nat}{v:V}(h:v∈ofBytes l): ∃n:Nat,v=.int .u8 n:=by
 simp only [ofBytes,List.mem_map] at h
 obtain ⟨n,_,rfl⟩:=h
 exact ⟨n,rfl⟩
theorem EX {s d:TypeId}{x v:V}{fg:H}(h:Rel c σ w)(J:convB P σ s d x=some (v,fg))(hx:wf c x):
  eL P (convert s d (conc c x)) c w v fg:=by
 unfold convB at J
 generalize hs:P.underlying s=ds at J
 generalize hd:P.underlying d=dd at J
 split at J
 ·rename_i e l
  generalize he:P.underlying e=de at J
  split at J
  ·cases hk:aY P e with
   | none=>simp [hk] at J
   | some k =>
    simp only [hk] at J
    cases hq:Nat.beq k 1 with
    | false=>simp [hq] at J
    | true =>
     have:=beq_iff.1 hq
     subst this
     simp only [hq,cond_true,Option.some.injEq,Prod.mk.injEq] at J
     obtain ⟨rfl,rfl⟩:=J
     have hl:∀y∈l,y<256:=by simpa [wf] using hx
     have ee:(⟨(l.map UInt8.ofNat).toArray⟩:ByteArray).size=l.length:=by simp [ByteArray.size]
     generalize U:(Question.appendCap l.length 0 e).cut (w.tape w.drawn (.appendCap l.length 0 e))=cap
     have Vd:l.length≤cap:=by rw [←U]; simp [Question.cut]
     obtain ⟨C,Mm⟩:∃C:Array Value,C=((ofBytes l).map (conc c)).toArray++Array.replicate (cap-l.length) (.int .u8 0):=⟨_,rfl⟩
     have hC:C.size=cap:=by simp [Mm,ofBytes]; omega
     have Dj:(convert s d (conc c (.str l))).run P w=.ok (.slice (some ⟨w.heap.size,0,none⟩) l.length cap) (w.drew.alloc (.cells C e (cap,cap+1))):=by
      simp only [conc,convert,Sem.run_bind,run_underlying hs,run_underlying hd,run_underlying he,Result.andThen_ok]
      simp only [Conv.stringToBytes,Sem.run_bind,run_choose,ee,Question.forced,Bool.false_eq_true,if_false,Result.andThen_ok,U,rf c hl,←Mm]
      simp only [Go.newRow,Sem.run_bind,run_newObj,Result.andThen_ok,Sem.run_pure,markStringish,run_shape]
      have I:World.shape? { w.drew with heap:=w.drew.heap.push (.cells C e) } w.drew.heap.size=some (e,cap):=by
       simp only [World.shape?,Array.getElem?_push,if_true,hC]
      simp only [World.drew] at I ⊢
      rw [I]
      simp only [run_freeze,Result.andThen_ok]
      congr 1
      simp only [World.freeze,World.alloc]
      simp only [Nat.one_ne_zero,if_false]
      congr 1
      apply Array.ext_getElem?
      intro i
      rw [Array.getElem?_modify]
      simp only [Array.getElem?_push]
      by_cases hi:w.heap.size=i
      ·subst hi; simp
      ·simp [hi,Ne.symm hi]
     have hex:=h.drew
     have g:=hex.new (.cells l.length (ofBytes l) true) (.cells C e (cap,cap+1)) 0 rfl ?_
     ·obtain ⟨g1,g2⟩:=g
      have xn:objSize (.cells C e (cap,cap+1))=cap:=by simp [objSize,hC]
      rw [xn] at g1 g2
      refine ⟨_,_,?_,?_,g1,(cm.drew c w).trans g2⟩
      ·rw [Dj]
       simp [conc,h.next,Ctx.room,Ctx.grow]
      ·simp [wf,h.next,Ctx.room,Ctx.grow]; omega
     ·have xn:objSize (.cells C e (cap,cap+1))=cap:=by simp [objSize,hC]
      rw [xn]
      refine ⟨by simp [ofBytes],fun v hv => ?_,C,e,(cap,cap+1),by rw [aP,e_]; simp,by rw [aP]; simp only; omega,fun j v hv => ?_,by simp [FzOk,hC]⟩
      ·obtain ⟨n,rfl⟩:=oK hv
       exact ⟨by simp [wf],rfl⟩
      ·rw [aP]
       obtain ⟨hj,tA⟩:=List.getElem?_eq_some_iff.1 hv
       obtain ⟨n,rfl⟩:=oK (List.mem_of_getElem? hv)
       rw [Mm,Array.getElem?_append_left (by simpa using hj)]
       simp [hv,conc]
  ·simp at J
 ·rename_i e' e id off len cap
  generalize he:P.underlying e=de at J
  split at J
  ·rename_i Ck n cs hg
   cases hq:Nat.beq s d with
   | false=>simp [hq] at J
   | true =>
    have SC:=beq_iff.1 hq
    subst SC
    simp only [hq,cond_true,Option.some.injEq,Prod.mk.injEq] at J
    obtain ⟨rfl,rfl⟩:=J
    have SD:e'=e:=by rw [hs] at hd; simpa using hd
    subst SD
    obtain ⟨hn,EY,C,el,fz,hb,hle,hc,oY⟩:=h.obj id _ hg
    simp only [FzOk] at oY
    subst oY
    have g:=h.Ch (st':=true) (lG:=(C.size,C.size+1)) (C':=C) (cs':=cs) hg hb rfl hn EY hc (by simp [FzOk])
    refine ⟨_,c,?_,hx,g.1,g.2⟩
    have bB:(c.ρ id).1<w.heap.size:=(Array.getElem?_eq_some_iff.1 hb).1
    have EZ:∃a n m,conc c (.sl id off len cap)=.slice (some a) n m∧a.block=(c.ρ id).1:=by
     cases cap with
     | exact k=>exact ⟨⟨(c.ρ id).1,(c.ρ id).2+off,none⟩,len,k,by simp only [conc],rfl⟩
     | rest tu alt=>exact ⟨⟨(c.ρ id).1,(c.ρ id).2+(if c.room id off tu=0 then alt else off),none⟩,len,c.room id off tu,by simp only [conc],rfl⟩
    obtain ⟨a,n',m',EZ,nE⟩:=EZ
    have I:World.shape? w a.block=some (el,C.size):=by simp [World.shape?,nE,hb]
    rw [EZ]
    simp only [convert,Sem.run_bind,run_underlying hs,run_underlying he,Result.andThen_ok,beq_self_eq_true,markStringish,run_shape,I,run_freeze,Sem.run_pure]
    congr 1
    simp only [World.freeze,World.setRow,Nat.one_ne_zero,if_false,nE]
    congr 1
    apply Array.ext_getElem?
    intro i
    rw [Array.getElem?_modify,Array.getElem?_setIfInBounds]
    by_cases hi:(c.ρ id).1=i
    ·subst hi
     rw [if_pos rfl,if_pos rfl,hb]
     simp [bB]
    ·simp [hi]
  ·simp at J
 ·simp at J
theorem oh {x:Int}(I:0≤x)(h1:x<9223372036854775808): IntKind.i64.wrap x=x:=by
 have J:x%(2^IntKind.i64.bits:Int)=x:=Int.emod_eq_of_lt I (by simp [IntKind.bits]; omega)
 have U:¬ (x≥(2^(IntKind.i64.bits-1):Int)):=by simp [IntKind.bits]; omega
 simp only [IntKind.wrap,J]
 simp [U]
theorem wo {t:TypeId}{a b v:V}{U:H}(h:Rel c σ w)(I:makeSliceV P σ t a b=some (v,U)):
  eL P (Instr.makeSlice t (conc c a) (conc c b)) c w v U:=by
 unfold makeSliceV at I
 generalize ht:P.underlying t=dt at I
 split at I
 ·rename_i e
  split at I
  ·rename_i i z k1 l k2 n hi hz
   cases hq:(decide (0≤l)&&decide (l≤n)&&decide (n<1073741824)&&Nat.ble i.bytes 4096&&Nat.beq z.cells.length i.size&&Nat.ble 1 i.size) with
   | false=>simp [hq] at I
   | true =>
    simp only [hq,cond_true,Option.some.injEq,Prod.mk.injEq] at I
    obtain ⟨rfl,rfl⟩:=I
    simp only [Bool.and_eq_true,decide_eq_true_eq,beq_iff,ay] at hq
    obtain ⟨⟨⟨⟨⟨q1,q2⟩,q3⟩,q4⟩,q5⟩,q6⟩:=hq
    obtain ⟨z1,z2⟩:=dI hz c w
    have hlen:(repeatL z.cells n.toNat).length=n.toNat*i.size:=by rw [jE,q5]
    have g:=mT (cs:=repeatL z.cells n.toNat) h (fun v hv=>⟨gM z2 v (ic hv),iB hz v (ic hv)⟩) e
    obtain ⟨g1,g2⟩:=g
    have SE:newRow σ (repeatL z.cells n.toNat)=σ.new (.cells (n.toNat*i.size) (repeatL z.cells n.toNat) false):=by simp [newRow,hlen]
    rw [SE] at g1
    refine ⟨_,_,?_,?_,g1,g2⟩
    ·have w1:=oh q1 (by omega)
     have w2:=oh (x:=n) (by omega) (by omega)
     have hb:¬ ((i.bytes:Int)*n>2^48):=by
      have:(i.bytes:Int)*n≤4096*1073741824:=Int.mul_le_mul (by omega) (by omega) (by omega) (by omega)
      omega
     have JH:¬ (n<0):=by omega
     have xo:¬ (l<0):=by omega
     have Mn:¬ (l>n):=by omega
     have ee:(sizeOf e).run P w=.ok i.size w:=by simp [sizeOf,typeInfo,hi]
     have E0:(typeInfo e).run P w=.ok i w:=by simp [typeInfo,hi]
     simp only [Instr.makeSlice,Sem.run_bind,run_underlying ht,Result.andThen_ok,conc,asInt,asIntOf,Sem.run_pure,E0,w1,w2]
     have J:(((decide (n<0)||decide ((i.bytes:Int)*n>2^48))||decide (l<0))||decide (l>n))=false:=by
      simp only [JH,hb,xo,Mn,decide_false,Bool.or_self]
     rw [J]
     simp only [Bool.false_eq_true,if_false]
     by_cases h0:n.toNat*i.size=0
     ·have hn:n.toNat=0:=by
       rcases Nat.mul_eq_zero.1 h0 with e1 | e1
       ·exact e1
       ·omega
      rw [hn]
      have tG:(Array.map (fun (_:Nat)=>(default:Value)) (Array.range 0)) = #[]:=by simp [Array.range]
      simp [Go.newRow,h.next,aP,repeatL,ee,tG]
     ·have tF:((Array.range (n.toNat*i.size)).map fun j=>((z.cells.map (conc c)).toArray)[j%((z.cells.map (conc c)).toArray).size]!)=((repeatL z.cells n.toNat).map (conc c)).toArray:=by
       rw [←q5]; exact kT c z.cells n.toNat (by omega)
      have zk:(conc c z).cells=(z.cells.map (conc c)).toArray:=dg c z
      simp only [Sem.run_bind,Sem.run_pure,run_askRoom,Result.andThen_ok,ee,h0,if_false,z1,zk,tF,Go.newRow,run_newObj]
      simp [h.next,aP]
    ·simp [wf,h.next,g8]; omega
  ·simp at I
 ·simp at I
theorem Br (h:Rel c σ w)(t:TypeId): eL P (Instr.makeMap t none) c w (.map σ.next) (σ.new (.map [] 0)):=by
 have g:=h.new (.map [] 0) (.map #[] 0) 0 rfl ⟨by simp,by rw [aP,e_]; simp⟩
 refine ⟨_,_,?_,?_,g.1,g.2⟩
 ·simp [Instr.makeMap,conc,h.next,aP]
 ·simp [wf,h.next,g8]
theorem uQ {α β:Type}(g:α→β)(f:α→α)(f':β→β)(I:∀x,g (f x)=f' (g x)): ∀(l:List α) (k:Nat),(setNth l k f).map g=(l.map g).modify k f':=by
 intro l
 induction l with
 | nil=>intro k; simp [setNth]
 | cons x l J =>
  intro k
  cases k with
  | zero=>simp [setNth,I]
  | succ k=>simp only [setNth,bT (Nat.succ_ne_zero k),cond_false,Nat.add_sub_cancel,List.map_cons,J,List.modify_succ_cons]
theorem uR {α:Type}{f:α→α}: ∀ {l:List α} {k:Nat} {x:α},x∈setNth l k f→x∈l∨∃y∈l,x=f y:=by
 intro l
 induction l with
 | nil=>intro k x h; simp [setNth] at h
 | cons y l I =>
  intro k x h
  cases k with
  | zero =>
   simp only [setNth,Nat.beq_refl,cond_true,List.mem_cons] at h
   rcases h with rfl | h
   ·exact .inr ⟨y,by simp,rfl⟩
   ·exact .inl (by simp [h])
  | succ k =>
   simp only [setNth,bT (Nat.succ_ne_zero k),cond_false,List.mem_cons] at h
   rcases h with rfl | h
   ·exact .inl (by simp)
   ·rcases I h with h | ⟨z,J,rfl⟩
    ·exact .inl (by simp [h])
    ·exact .inr ⟨z,by simp [J],rfl⟩
theorem Dl {α:Type}: ∀(l:List α) (k:Nat),gF l k=l.eraseIdx k:=by
 intro l
 induction l with
 | nil=>intro k; simp [gF]
 | cons x l I =>
  intro k
  cases k with
  | zero=>simp [gF]
  | succ k=>simp only [gF,bT (Nat.succ_ne_zero k),cond_false,Nat.add_sub_cancel,I,List.eraseIdx_cons_succ]
theorem Bt {α β:Type}(g:α→β): ∀(l:List α) (k:Nat),(gF l k).map g=(l.map g).eraseIdx k:=by
 intro l
 induction l with
 | nil=>intro k; simp [gF]
 | cons x l I =>
  intro k
  cases k with
  | zero=>simp [gF]
  | succ k=>simp only [gF,bT (Nat.succ_ne_zero k),cond_false,Nat.add_sub_cancel,List.map_cons,I,List.eraseIdx_cons_succ]
theorem tH {d:TypeDesc}{a b:V}(h:keyBeq d a b=some true)(J:wf c a)(U:wf c b): conc c a=conc c b∧∀n,Instr.sameBits n (conc c b) (conc c a)=true:=by
 unfold keyBeq at h
 split at h
 ·rename_i j x k y
  cases I:ikBeq j k with
  | false=>simp [I] at h
  | true =>
   have:=ki I
   subst this
   simp only [I,cond_true,Option.some.injEq,jm,beq_iff_eq] at h
   subst h
   exact ⟨rfl,fun n=>by cases n <;> simp [conc,Instr.sameBits]⟩
 ·rename_i x y
  simp only [Option.some.injEq,mR,beq_iff_eq] at h
  subst h
  refine ⟨rfl,fun n => ?_⟩
  have:((⟨(x.map UInt8.ofNat).toArray⟩:ByteArray) == ⟨(x.map UInt8.ofNat).toArray⟩)=true:=by
   rw [q_ (by simpa [wf] using J) (by simpa [wf] using J),mR]; simp
  cases n <;> simp [conc,Instr.sameBits,this]
 ·simp at h
theorem oZ {t:TypeId}{x k v:V}{fg:H}(h:Rel c σ w)(I:mapUpdateV P σ t x k v=some fg)(hk:wf c k)(hv:wf c v):
  HD P (Instr.mapUpdate t (conc c x) (conc c k) (conc c v)) c w fg:=by
 unfold mapUpdateV at I
 generalize ht:P.underlying t=dt at I
 split at I
 ·rename_i kt et
  generalize hd:P.underlying kt=dk at I
  split at I
  ·rename_i d id
   split at I
   ·rename_i es clock hg
    obtain ⟨hw,hb⟩:=h.obj id _ hg
    have mo:=gv (P:=P) hb (by simp)
    split at I
    ·rename_i b i u U hf
     simp only [Option.some.injEq] at I
     subst I
     have Mo:=hG (P:=P) hd hk hf hw w
     obtain ⟨e,g1,_,g3,g4⟩:=(pS hk es 0 _ hf hw).2 (i,u) rfl
     simp only [Nat.sub_zero] at g1
     have JI:=hw e (List.mem_of_getElem? g1)
     obtain ⟨s1,s2⟩:=tH g4 hk JI.1
     have hm:=h.nC (es':=setNth es i fun e=>(e.1,v,e.2.2)) (k':=clock) hg (by
      intro y J
      rcases uR J with J | ⟨z,hz,rfl⟩
      ·exact hw y J
      ·exact ⟨(hw z hz).1,hv⟩)
     refine ⟨_,_,?_,hm.1,hm.2⟩
     simp only [Instr.mapUpdate,Sem.run_bind,run_underlying ht,Result.andThen_ok,conc,mo]
     rw [fM hd U]
     simp only [Result.andThen_ok,Mo,Option.map_some,Sem.run_bind]
     have tC:((es.map (br c)).toArray[i]?.map (·.key)).getD (conc c k)=conc c e.1:=by simp [g1,br]
     rw [tC]
     simp only [Instr.keyThatStays,s2,if_true,Sem.run_pure,Result.andThen_ok]
     rw [g9 hb (by simp)]
     congr 3
     rw [uQ (br c) _ (fun e=>{ e with val:=conc c v }) (by intro y; simp [br])]
     rw [List.modify_toArray]
     congr 2
     -- the key that stays is the elder one
     apply List.ext_getElem?
     intro j
     simp only [List.getElem?_modify]
     by_cases hj:i=j
     ·subst hj
      simp [g1,br,s1]
     ·simp [hj]
    ·rename_i b U hf
     simp only [Option.some.injEq] at I
     subst I
     have Mo:=hG (P:=P) hd hk hf hw w
     have hm:=h.nC (es':=es++[(k,v,clock)]) (k':=clock+1) hg (by
      intro y J
      simp only [List.mem_append,List.mem_singleton] at J
      rcases J with J | rfl
      ·exact hw y J
      ·exact ⟨hk,hv⟩)
     refine ⟨_,_,?_,hm.1,hm.2⟩
     simp only [Instr.mapUpdate,Sem.run_bind,run_underlying ht,Result.andThen_ok,conc,mo]
     rw [fM hd U]
     simp only [Result.andThen_ok,Mo,Option.map_none]
     rw [g9 hb (by simp)]
     congr 3
     simp [br]
    ·simp at I
   ·simp at I
  ·simp at I
 ·simp at I
theorem yx {t:TypeId}{x k v:V}{fg:H}(h:Rel c σ w)(I:mapEntryV P σ t x k=some (v,fg))(hk:wf c k):
  eL P (Instr.mapEntry t (conc c x) (conc c k)) c w v fg:=by
 unfold mapEntryV at I
 generalize ht:P.underlying t=dt at I
 split at I
 ·rename_i kt et
  generalize hd:P.underlying kt=dk at I
  split at I
  ·rename_i d z id hz
   obtain ⟨z1,z2⟩:=dI hz c w
   split at I
   ·rename_i es clock hg
    obtain ⟨hw,hb⟩:=h.obj id _ hg
    have mo:=gv (P:=P) hb (by simp)
    split at I
    ·rename_i b i u J hf
     rw [dG] at I
     have U:=hG (P:=P) hd hk hf hw w
     obtain ⟨e,g1,_,g3,g4⟩:=(pS hk es 0 _ hf hw).2 (i,u) rfl
     simp only [Nat.sub_zero] at g1
     simp only [g1,Option.some.injEq,Prod.mk.injEq] at I
     obtain ⟨rfl,rfl⟩:=I
     have JI:=hw e (List.mem_of_getElem? g1)
     obtain ⟨s1,s2⟩:=tH g4 hk JI.1
     have hu:wf c u:=by simp only at g3; rw [g3]; exact JI.2
     refine eL.same h ⟨?_,by simp [wf,dH,hu]⟩
     simp only [Instr.mapEntry,Sem.run_bind,run_underlying ht,Result.andThen_ok,conc,mo]
     rw [fM hd J]
     simp only [Result.andThen_ok,U,Option.map_some,Sem.run_bind]
     have tC:((es.map (br c)).toArray[i]?.map (·.key)).getD (conc c k)=conc c e.1:=by simp [g1,br]
     rw [tC]
     simp only [Instr.keyThatStays,s2,if_true,Sem.run_pure,Result.andThen_ok]
     rw [g9 hb (by simp)]
     have Dm:({ w with heap:=w.heap.setIfInBounds (c.ρ id).1 (.map ((es.map (br c)).toArray.modify i fun e=>{ e with key:=conc c k }) clock) }:World)=w:=by
      have:(es.map (br c)).toArray.modify i (fun e=>{ e with key:=conc c k })=(es.map (br c)).toArray:=by
       rw [List.modify_toArray]
       congr 1
       apply List.ext_getElem?
       intro j
       simp only [List.getElem?_modify]
       by_cases hj:i=j
       ·subst hj; simp [g1,br,s1]
       ·simp [hj]
      rw [this]
      obtain ⟨bB,qS⟩:=Array.getElem?_eq_some_iff.1 hb
      have:w.heap.setIfInBounds (c.ρ id).1 (.map (es.map (br c)).toArray clock)=w.heap:=by
       apply Array.ext_getElem?
       intro j
       rw [Array.getElem?_setIfInBounds]
       by_cases hj:(c.ρ id).1=j
       ·subst hj; simp [bB,qS]
       ·simp [hj]
      rw [this]
     rw [Dm]
     simp [g1,br,conc,concL,goInt]
    ·rename_i b J hf
     simp only [Option.some.injEq,Prod.mk.injEq] at I
     obtain ⟨rfl,rfl⟩:=I
     have U:=hG (P:=P) hd hk hf hw w
     have hm:=h.nC (es':=es++[(k,z,clock)]) (k':=clock+1) hg (by
      intro y hy
      simp only [List.mem_append,List.mem_singleton] at hy
      rcases hy with hy | rfl
      ·exact hw y hy
      ·exact ⟨hk,z2⟩)
     refine ⟨_,_,?_,by simp [wf,dH,z2],hm.1,hm.2⟩
     simp only [Instr.mapEntry,Sem.run_bind,run_underlying ht,Result.andThen_ok,conc,mo]
     rw [fM hd J]
     simp only [Result.andThen_ok,U,Option.map_none,Sem.run_bind,z1]
     rw [g9 hb (by simp)]
     simp [br,concL,conc,goInt]
    ·simp at I
   ·simp at I
  ·simp at I
 ·simp at I
theorem Bu (c:Ctx)(b:Int): ∀(es:List (V×V×Nat)) (i j:Nat),findBorn es b i=some j →
  (es.map (br c)).findIdx? (fun e=>(e.born:Int) == b)=some (j-i)∧i≤j:=by
 intro es
 induction es with
 | nil=>intro i j h; simp [findBorn] at h
 | cons e es U =>
  intro i j h
  simp only [findBorn,jm] at h
  by_cases I:(e.2.2:Int)=b
  ·have:((e.2.2:Int) == b)=true:=by simpa using I
   rw [this,cond_true,Option.some.injEq] at h
   subst h
   simp [List.findIdx?_cons,br,I]
  ·have:((e.2.2:Int) == b)=false:=by simpa using I
   rw [this,cond_false] at h
   obtain ⟨h1,h2⟩:=U (i+1) j h
   refine ⟨?_,by omega⟩
   rw [List.map_cons,List.findIdx?_cons,h1]
   have J:(((br c e).born:Int) == b)=false:=by simpa [br] using I
   rw [J]
   simp
   omega
theorem uS {t:TypeId}{x s v:V}{J:H}(h:Rel c σ w)(I:entryStoreV σ x s v=some J)(hv:wf c v):
  HD P (Instr.entryStore t (conc c x) (conc c s) (conc c v)) c w J:=by
 unfold entryStoreV at I
 split at I
 ·rename_i id k b
  split at I
  ·rename_i es clock hg
   obtain ⟨hw,hb⟩:=h.obj id _ hg
   have U:=gv (P:=P) hb (by simp)
   cases hf:findBorn es b 0 with
   | none=>simp [hf] at I
   | some i =>
    simp only [hf,Option.some.injEq] at I
    subst I
    have PS:=(Bu c b es 0 i hf).1
    have hm:=h.nC (es':=setNth es i fun e=>(e.1,v,e.2.2)) (k':=clock) hg (by
     intro y hy
     rcases uR hy with hy | ⟨z,hz,rfl⟩
     ·exact hw y hy
     ·exact ⟨(hw z hz).1,hv⟩)
    refine ⟨_,_,?_,hm.1,hm.2⟩
    simp only [Instr.entryStore,conc,Sem.run_bind,U,Result.andThen_ok,asInt,asIntOf,Sem.run_pure]
    have SF:(es.map (br c)).toArray.findIdx? (fun e=>(e.born:Int) == b)=some i:=by
     simpa using PS
    rw [SF]
    simp only
    rw [g9 hb (by simp)]
    congr 3
    rw [uQ (br c) _ (fun e=>{ e with val:=conc c v }) (by intro y; simp [br])]
    rw [List.modify_toArray]
  ·simp at I
 ·simp at I
theorem Bv {t ty:TypeId}{x k:V}{fg:H}(h:Rel c σ w)(I:ku P σ t x k=some fg)(hk:wf c k)(ts:Array TypeId)(Cl:ts[0]?=some t):
  ∃w' c',(Builtin.delete_ ts ty #[conc c x,conc c k]).run P w=.ok (.tuple #[]) w'∧Rel c' fg w'∧cm c w c' w':=by
 unfold ku at I
 generalize ht:P.underlying t=dt at I
 split at I
 ·rename_i kt et
  generalize hd:P.underlying kt=dk at I
  split at I
  ·rename_i d id
   split at I
   ·rename_i es clock hg
    obtain ⟨hw,hb⟩:=h.obj id _ hg
    have mo:=gv (P:=P) hb (by simp)
    split at I
    ·rename_i b i u J hf
     simp only [Option.some.injEq] at I
     subst I
     have U:=hG (P:=P) hd hk hf hw w
     have hm:=h.nC (es':=gF es i) (k':=clock) hg (by
      intro y hy
      rw [Dl] at hy
      exact hw y (List.mem_of_mem_eraseIdx hy))
     refine ⟨_,_,?_,hm.1,hm.2⟩
     simp only [Builtin.delete_,Cl,List.getElem?_toArray,List.getElem?_cons_zero,List.getElem?_cons_succ,Sem.run_bind,run_underlying ht,Result.andThen_ok,conc,mo]
     rw [fM hd J]
     simp only [Result.andThen_ok,U,Option.map_some,Sem.run_bind]
     rw [g9 hb (by simp)]
     simp [Bt]
    ·rename_i b J hf
     simp only [Option.some.injEq] at I
     subst I
     have U:=hG (P:=P) hd hk hf hw w
     have hm:=h.nC (es':=es) (k':=clock) hg hw
     refine ⟨w,c,?_,h,cm.refl c w⟩
     simp only [Builtin.delete_,Cl,List.getElem?_toArray,List.getElem?_cons_zero,List.getElem?_cons_succ,Sem.run_bind,run_underlying ht,Result.andThen_ok,conc,mo]
     rw [fM hd J]
     simp only [Result.andThen_ok,U,Option.map_none,Sem.run_bind]
     rw [g9 hb (by simp)]
     obtain ⟨bB,qS⟩:=Array.getElem?_eq_some_iff.1 hb
     have:w.heap.setIfInBounds (c.ρ id).1 (.map (es.map (br c)).toArray clock)=w.heap:=by
      apply Array.ext_getElem?
      intro j
      rw [Array.getElem?_setIfInBounds]
      by_cases hj:(c.ρ id).1=j
      ·subst hj; simp [bB,qS]
      ·simp [hj]
     simp [this]
    ·simp at I
   ·simp at I
  ·simp at I
 ·simp at I
end
end Go.Proofs.YtconhghphklfjaaGreat.Am
