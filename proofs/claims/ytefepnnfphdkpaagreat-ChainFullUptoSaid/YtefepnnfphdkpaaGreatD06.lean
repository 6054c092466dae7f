/- ChainFull: a part of its proof; conditions: its statement's. -/
import Derived.Test.YtefepnnfphdkpaaGreatD05
namespace Go.Proofs.YtefepnnfphdkpaaGreat.Am
open Go
section
variable {P:Program} {c:Ctx} {σ:H} {w:World}
def fM (P:Program)(s:Sem Value)(c:Ctx)(w:World)(v:V)(I:H): Prop :=
 ∃w' c',s.run P w=.ok (conc c' v) w'∧wf c' v∧Rel c' I w'∧b7 c w c' w'
def LU (P:Program)(s:Sem Unit)(c:Ctx)(w:World)(I:H): Prop :=
 ∃w' c',s.run P w=.ok () w'∧Rel c' I w'∧b7 c w c' w'
theorem fM.same {s:Sem Value}{v:V}(h:Rel c σ w)(I:s.run P w=.ok (conc c v) w∧wf c v): fM P s c w v σ :=
 ⟨w,c,I.1,I.2,h,b7.refl c w⟩
theorem p9 {cs:List V}(h:Rel c σ w)(I:∀v∈cs,wf c v∧storable v=true)(e:TypeId):
  Rel (c.grow w.heap.size 0 cs.length) (newRow σ cs) (w.alloc (.cells (cs.map (conc c)).toArray e))∧b7 c w (c.grow w.heap.size 0 cs.length) (w.alloc (.cells (cs.map (conc c)).toArray e)):=by
 have:=h.newRow I e []
 simpa [newRow] using this
theorem Dj (c:Ctx)(b size:Nat): conc (c.grow b 0 size) (.ptr c.N 0)=.pointer (some ⟨b,0,none⟩):=by
 simp [conc,aT]
theorem Jo {t:TypeId}{z:V}(h:Rel c σ w)(I:zeroT P t=some z):
  fM P (Instr.alloc t true (.tuple #[])) c w (.ptr σ.next 0) (newRow σ z.cells):=by
 obtain ⟨J,z2⟩:=eX I c w
 obtain ⟨g1,g2⟩:=p9 h (fun v hv=>⟨iF z2 v hv,j9 I v hv⟩) t
 refine ⟨_,_,?_,?_,g1,g2⟩
 ·rw [h.next,Dj]
  simp [Instr.alloc,J,newVar,Go.newRow,eE]
 ·simp [wf,h.next,jG]
theorem O8 {t:TypeId}{v:V}(h:Rel c σ w)(hv:wf c v)(hs:v.cells.all storable=true):
  fM P (Instr.box t (conc c v)) c w (.ptr σ.next 0) (newRow σ v.cells):=by
 obtain ⟨J,g2⟩:=p9 h (fun x I=>⟨iF hv x I,(List.all_eq_true.1 hs) x I⟩) t
 refine ⟨_,_,?_,?_,J,g2⟩
 ·rw [h.next,Dj]
  simp [Instr.box,newVar,Go.newRow,eE]
 ·simp [wf,h.next,jG]
theorem j_ (z:List V)(n:Nat): (repeatL z n).length=n*z.length:=by
 induction n with
 | zero=>simp [repeatL]
 | succ n I=>simp [repeatL,I,Nat.succ_mul,wW]
theorem Fi (z:List V)(n:Nat): ∀i,i<n*z.length→(repeatL z n)[i]?=z[i%z.length]?:=by
 induction n with
 | zero=>intro i hi; simp at hi
 | succ n J =>
  intro i hi
  rw [Nat.succ_mul] at hi
  simp only [repeatL]
  by_cases I:i<z.length
  ·rw [gF I,j5 I]
  ·rw [jv (by omega),J _ (by omega)]
   congr 1
   have:=Nat.mod_eq_sub_mod (show i≥z.length by omega)
   rw [this]
theorem iW {z:List V}{n:Nat}{v:V}(h:v∈repeatL z n): v∈z:=by
 induction n with
 | zero=>simp [repeatL] at h
 | succ n I =>
  simp only [repeatL,od] at h
  rcases h with h | h
  ·exact h
  ·exact I h
theorem lq (c:Ctx)(z:List V)(n:Nat)(hz:1≤z.length):
  ((Array.range (n*z.length)).map fun i=>((z.map (conc c)).toArray)[i%((z.map (conc c)).toArray).size]!)=((repeatL z n).map (conc c)).toArray:=by
 apply n4
 intro i
 by_cases hi:i<n*z.length
 ·have I:i%z.length<z.length:=tf _ hz
  have J:=Fi z n i hi
  rw [aM I] at J
  simp only [Array.getElem?_map,Array.getElem?_range,hi,bB,gY,List.size_toArray,er,lU,gI,J]
  congr 1
  rw [getElem!_pos _ _ (by simpa using I)]
  simp
 ·have h3:(repeatL z n).length≤i:=by rw [j_]; omega
  simp [hi,h3]
theorem zu {t:TypeId}{n:Nat}{l:List (Nat×V)}{v:V}{J:H}(h:Rel c σ w)(I:buildSliceV P σ t n l=some (v,J))(hl:∀x∈l,wf c x.2):
  fM P (Instr.buildSlice t n (l.map fun x=>(x.1,conc c x.2)).toArray) c w v J:=by
 unfold buildSliceV at I
 generalize ht:P.underlying t=dt at I
 split at I
 ·rename_i e
  cases hk:bk P e with
  | none=>simp [hk] at I
  | some k =>
   cases hz:zeroT P e with
   | none=>simp [hk,hz] at I
   | some z =>
    simp only [hk,hz] at I
    cases hq:(Nat.beq z.cells.length k&&Nat.ble (n*k) 65536&&Nat.ble 1 k) with
    | false=>simp [hq] at I
    | true =>
     simp only [hq,af] at I
     simp only [aH,beq_iff,aE] at hq
     obtain ⟨⟨q1,q2⟩,q3⟩:=hq
     obtain ⟨z1,z2⟩:=eX hz c w
     cases hf:fillV (fun i=>some (i*k,k)) (repeatL z.cells n) l with
     | none=>simp [hf] at I
     | some cs =>
      simp only [hf] at I
      cases hs:cs.all storable with
      | false=>simp [hs] at I
      | true =>
       simp only [hs,af,aj,aC] at I
       obtain ⟨rfl,rfl⟩:=I
       obtain ⟨f1,f2,f3⟩:=w6 (c:=c) _ l _ cs hf (fun v hv=>iF z2 v (iW hv)) hl
       obtain ⟨g1,g2⟩:=p9 h (fun v hv=>⟨f2 v hv,(List.all_eq_true.1 hs) v hv⟩) e
       refine ⟨_,_,?_,?_,g1,g2⟩
       ·have WY:¬ (n*k>2^24):=by omega
        have xV:((Array.range (n*k)).map fun i=>((z.cells.map (conc c)).toArray)[i%((z.cells.map (conc c)).toArray).size]!)=((repeatL z.cells n).map (conc c)).toArray:=by
         rw [←q1]; exact lq c z.cells n (by omega)
        by_cases h0:n*k=0
        ·have iV:(repeatL z.cells n)=[]:=by
          have:(repeatL z.cells n).length=0:=by rw [j_,q1]; exact h0
          exact List.length_eq_zero_iff.1 this
         rw [iV] at f1
         simp only [List.map_nil] at f1
         simp only [Instr.buildSlice,Sem.run_bind,run_underlying ht,Result.andThen_ok,b_ hk,h0,bB]
         have xW:(Array.map (fun (_:Nat)=>(default:Value)) (Array.range 0)) = #[]:=by simp [Array.range]
         simp [xW,f1,Go.newRow,h.next,conc,aT]
        ·simp only [Instr.buildSlice,Sem.run_bind,run_underlying ht,Result.andThen_ok,b_ hk,WY,bF,h0,Sem.run_pure,z1,eE,xV,f1]
         simp [Go.newRow,h.next,conc,aT]
       ·simp [wf,h.next,jG]
 ·simp at I
theorem vk (c:Ctx){l:List Nat}(I:∀x∈l,x<256): ((⟨(l.map UInt8.ofNat).toArray⟩:ByteArray).data.map fun b=>Value.int .u8 b.toNat)=((ofBytes l).map (conc c)).toArray:=by
 simp only [List.map_toArray,ofBytes,wV]
 congr 1
 refine mS fun x J => ?_
 simp [conc,qn,j5 (I x J)]
theorem sr {l:List Nat}{v:V}(h:v∈ofBytes l): ∃n:Nat,v=.int .u8 n:=by
 simp only [ofBytes,lW] at h
 obtain ⟨n,_,rfl⟩:=h
 exact ⟨n,rfl⟩
theorem Jp {s d:TypeId}{x v:V}{dU:H}(h:Rel c σ w)(J:convB P σ s d x=some (v,dU))(hx:wf c x):
  fM P (convert s d (conc c x)) c w v dU:=by
 unfold convB at J
 generalize hs:P.underlying s=ds at J
 generalize hd:P.underlying d=dd at J
 split at J
 ·rename_i e l
  generalize he:P.underlying e=de at J
  split at J
  ·cases hk:bk P e with
   | none=>simp [hk] at J
   | some k =>
    simp only [hk] at J
    cases hq:Nat.beq k 1 with
    | false=>simp [hq] at J
    | true =>
     have:=beq_iff.1 hq
     subst this
     simp only [hq,af,aj,aC] at J
     obtain ⟨rfl,rfl⟩:=J
     have hl:∀y∈l,y<256:=by simpa [wf] using hx
     have eA:(⟨(l.map UInt8.ofNat).toArray⟩:ByteArray).size=l.length:=by simp [ByteArray.size]
     generalize ud:(Question.appendCap l.length 0 e).cut (w.tape w.drawn (.appendCap l.length 0 e))=cap
     have Zg:l.length≤cap:=by rw [←ud]; simp [Question.cut]
     obtain ⟨C,QU⟩:∃C:Array Value,C=((ofBytes l).map (conc c)).toArray++Array.replicate (cap-l.length) (.int .u8 0):=⟨_,rfl⟩
     have hC:C.size=cap:=by simp [QU,ofBytes]; omega
     have vl:(convert s d (conc c (.str l))).run P w=.ok (.slice (some ⟨w.heap.size,0,none⟩) l.length cap) (w.drew.alloc (.cells C e (cap,cap+1))):=by
      simp only [conc,convert,Sem.run_bind,run_underlying hs,run_underlying hd,run_underlying he,Result.andThen_ok]
      simp only [Conv.stringToBytes,Sem.run_bind,run_choose,eA,Question.forced,dV,bF,Result.andThen_ok,ud,vk c hl,←QU]
      simp only [Go.newRow,Sem.run_bind,run_newObj,Result.andThen_ok,Sem.run_pure,markStringish,run_shape]
      have I:World.shape? { w.drew with heap:=w.drew.heap.push (.cells C e) } w.drew.heap.size=some (e,cap):=by
       simp only [World.shape?,A2,bB,hC]
      simp only [World.drew] at I ⊢
      rw [I]
      simp only [run_freeze,Result.andThen_ok]
      congr 1
      simp only [World.freeze,World.alloc]
      simp only [Nat.one_ne_zero,bF]
      congr 1
      apply n4
      intro i
      rw [AZ]
      simp only [A2]
      by_cases hi:w.heap.size=i
      ·subst hi; simp
      ·simp [hi,ja hi]
     have hex:=h.drew
     have g:=hex.new (.cells l.length (ofBytes l) true) (.cells C e (cap,cap+1)) 0 rfl ?_
     ·obtain ⟨g1,g2⟩:=g
      have NS:objSize (.cells C e (cap,cap+1))=cap:=by simp [objSize,hC]
      rw [NS] at g1 g2
      refine ⟨_,_,?_,?_,g1,(b7.drew c w).trans g2⟩
      ·rw [vl]
       simp [conc,h.next,Ctx.room,Ctx.grow]
      ·simp [wf,h.next,Ctx.room,Ctx.grow]; omega
     ·have NS:objSize (.cells C e (cap,cap+1))=cap:=by simp [objSize,hC]
      rw [NS]
      refine ⟨by simp [ofBytes],fun v hv => ?_,C,e,(cap,cap+1),by rw [aT,fE]; simp,by rw [aT]; simp only; omega,fun j v hv => ?_,by simp [FzOk,hC]⟩
      ·obtain ⟨n,rfl⟩:=sr hv
       exact ⟨by simp [wf],rfl⟩
      ·rw [aT]
       obtain ⟨hj,xP⟩:=List.getElem?_eq_some_iff.1 hv
       obtain ⟨n,rfl⟩:=sr (aV hv)
       rw [QU,Array.getElem?_append_left (by simpa using hj)]
       simp [hv,conc]
  ·simp at J
 ·rename_i e' e id off len cap
  generalize he:P.underlying e=de at J
  split at J
  ·rename_i vm n cs hg
   cases hq:Nat.beq s d with
   | false=>simp [hq] at J
   | true =>
    have WZ:=beq_iff.1 hq
    subst WZ
    simp only [hq,af,aj,aC] at J
    obtain ⟨rfl,rfl⟩:=J
    have W3:e'=e:=by rw [hs] at hd; simpa using hd
    subst W3
    obtain ⟨hn,Jq,C,el,fz,hb,hle,hc,tu⟩:=h.obj id _ hg
    simp only [FzOk] at tu
    subst tu
    have g:=h.F9 (st':=true) (nT:=(C.size,C.size+1)) (C':=C) (cs':=cs) hg hb rfl hn Jq hc (by simp [FzOk])
    refine ⟨_,c,?_,hx,g.1,g.2⟩
    have aY:(c.ρ id).1<w.heap.size:=(Array.getElem?_eq_some_iff.1 hb).1
    have zy:∃a n m,conc c (.sl id off len cap)=.slice (some a) n m∧a.block=(c.ρ id).1:=by
     cases cap with
     | exact k=>exact ⟨⟨(c.ρ id).1,(c.ρ id).2+off,none⟩,len,k,by simp only [conc],rfl⟩
     | rest ga alt=>exact ⟨⟨(c.ρ id).1,(c.ρ id).2+(if c.room id off ga=0 then alt else off),none⟩,len,c.room id off ga,by simp only [conc],rfl⟩
    obtain ⟨a,n',m',zy,mh⟩:=zy
    have I:World.shape? w a.block=some (el,C.size):=by simp [World.shape?,mh,hb]
    rw [zy]
    simp only [convert,Sem.run_bind,run_underlying hs,run_underlying he,Result.andThen_ok,beq_self_eq_true,markStringish,run_shape,I,run_freeze,Sem.run_pure]
    congr 1
    simp only [World.freeze,World.setRow,Nat.one_ne_zero,bF,mh]
    congr 1
    apply n4
    intro i
    rw [AZ,ju]
    by_cases hi:(c.ρ id).1=i
    ·subst hi
     rw [ax rfl,ax rfl,hb]
     simp [aY]
    ·simp [hi]
  ·simp at J
 ·simp at J
theorem rQ {x:Int}(I:0≤x)(h1:x<9223372036854775808): IntKind.i64.wrap x=x:=by
 have J:x%(2^IntKind.i64.bits:Int)=x:=Int.emod_eq_of_lt I (by simp [IntKind.bits]; omega)
 have h4:¬ (x≥(2^(IntKind.i64.bits-1):Int)):=by simp [IntKind.bits]; omega
 simp only [IntKind.wrap,J]
 simp [h4]
theorem Bp {t:TypeId}{a b v:V}{dU:H}(h:Rel c σ w)(I:makeSliceV P σ t a b=some (v,dU)):
  fM P (Instr.makeSlice t (conc c a) (conc c b)) c w v dU:=by
 unfold makeSliceV at I
 generalize ht:P.underlying t=dt at I
 split at I
 ·rename_i e
  split at I
  ·rename_i i z k1 l k2 n hi hz
   cases hq:(decide (0≤l)&&decide (l≤n)&&decide (n<1073741824)&&Nat.ble i.bytes 4096&&Nat.beq z.cells.length i.size&&Nat.ble 1 i.size) with
   | false=>simp [hq] at I
   | true =>
    simp only [hq,af,aj,aC] at I
    obtain ⟨rfl,rfl⟩:=I
    simp only [aH,dz,beq_iff,aE] at hq
    obtain ⟨⟨⟨⟨⟨q1,q2⟩,q3⟩,q4⟩,q5⟩,q6⟩:=hq
    obtain ⟨z1,z2⟩:=eX hz c w
    have hlen:(repeatL z.cells n.toNat).length=n.toNat*i.size:=by rw [j_,q5]
    have g:=p9 (cs:=repeatL z.cells n.toNat) h (fun v hv=>⟨iF z2 v (iW hv),j9 hz v (iW hv)⟩) e
    obtain ⟨g1,g2⟩:=g
    have W4:newRow σ (repeatL z.cells n.toNat)=σ.new (.cells (n.toNat*i.size) (repeatL z.cells n.toNat) false):=by simp [newRow,hlen]
    rw [W4] at g1
    refine ⟨_,_,?_,?_,g1,g2⟩
    ·have w1:=rQ q1 (by omega)
     have w2:=rQ (x:=n) (by omega) (by omega)
     have hb:¬ ((i.bytes:Int)*n>2^48):=by
      have:(i.bytes:Int)*n≤4096*1073741824:=Int.mul_le_mul (by omega) (by omega) (by omega) (by omega)
      omega
     have Gb:¬ (n<0):=by omega
     have vn:¬ (l<0):=by omega
     have QV:¬ (l>n):=by omega
     have eA:(sizeOf e).run P w=.ok i.size w:=by simp [sizeOf,typeInfo,hi]
     have Jr:(typeInfo e).run P w=.ok i w:=by simp [typeInfo,hi]
     simp only [Instr.makeSlice,Sem.run_bind,run_underlying ht,Result.andThen_ok,conc,asInt,asIntOf,Sem.run_pure,Jr,w1,w2]
     have J:(((decide (n<0)||decide ((i.bytes:Int)*n>2^48))||decide (l<0))||decide (l>n))=false:=by
      simp only [Gb,hb,vn,QV,mZ,Bool.or_self]
     rw [J]
     simp only [dV,bF]
     by_cases h0:n.toNat*i.size=0
     ·have hn:n.toNat=0:=by
       rcases Nat.mul_eq_zero.1 h0 with e1 | e1
       ·exact e1
       ·omega
      rw [hn]
      have xW:(Array.map (fun (_:Nat)=>(default:Value)) (Array.range 0)) = #[]:=by simp [Array.range]
      simp [Go.newRow,h.next,aT,repeatL,eA,xW]
     ·have xV:((Array.range (n.toNat*i.size)).map fun j=>((z.cells.map (conc c)).toArray)[j%((z.cells.map (conc c)).toArray).size]!)=((repeatL z.cells n.toNat).map (conc c)).toArray:=by
       rw [←q5]; exact lq c z.cells n.toNat (by omega)
      have vo:(conc c z).cells=(z.cells.map (conc c)).toArray:=eE c z
      simp only [Sem.run_bind,Sem.run_pure,run_askRoom,Result.andThen_ok,eA,h0,bF,z1,vo,xV,Go.newRow,run_newObj]
      simp [h.next,aT]
    ·simp [wf,h.next,jG]; omega
  ·simp at I
 ·simp at I
theorem Fj (h:Rel c σ w)(t:TypeId): fM P (Instr.makeMap t none) c w (.map σ.next) (σ.new (.map [] 0)):=by
 have g:=h.new (.map [] 0) (.map #[] 0) 0 rfl ⟨by simp,by rw [aT,fE]; simp⟩
 refine ⟨_,_,?_,?_,g.1,g.2⟩
 ·simp [Instr.makeMap,conc,h.next,aT]
 ·simp [wf,h.next,jG]
theorem zB {α β:Type}(g:α→β)(f:α→α)(f':β→β)(I:∀x,g (f x)=f' (g x)): ∀(l:List α) (k:Nat),(setNth l k f).map g=(l.map g).modify k f':=by
 intro l
 induction l with
 | nil=>intro k; simp [setNth]
 | cons x l J =>
  intro k
  cases k with
  | zero=>simp [setNth,I]
  | succ k=>simp only [setNth,cV (sW k),ay,sN,cu,J,List.modify_succ_cons]
theorem zC {α:Type}{f:α→α}: ∀ {l:List α} {k:Nat} {x:α},x∈setNth l k f→x∈l∨∃y∈l,x=f y:=by
 intro l
 induction l with
 | nil=>intro k x h; simp [setNth] at h
 | cons y l I =>
  intro k x h
  cases k with
  | zero =>
   simp only [setNth,dn,af,gL] at h
   rcases h with rfl | h
   ·exact .inr ⟨y,by simp,rfl⟩
   ·exact .inl (by simp [h])
  | succ k =>
   simp only [setNth,cV (sW k),ay,gL] at h
   rcases h with rfl | h
   ·exact .inl (by simp)
   ·rcases I h with h | ⟨z,J,rfl⟩
    ·exact .inl (by simp [h])
    ·exact .inr ⟨z,by simp [J],rfl⟩
theorem HA {α:Type}: ∀(l:List α) (k:Nat),jc l k=l.eraseIdx k:=by
 intro l
 induction l with
 | nil=>intro k; simp [jc]
 | cons x l I =>
  intro k
  cases k with
  | zero=>simp [jc]
  | succ k=>simp only [jc,cV (sW k),ay,sN,I,List.eraseIdx_cons_succ]
theorem Fk {α β:Type}(g:α→β): ∀(l:List α) (k:Nat),(jc l k).map g=(l.map g).eraseIdx k:=by
 intro l
 induction l with
 | nil=>intro k; simp [jc]
 | cons x l I =>
  intro k
  cases k with
  | zero=>simp [jc]
  | succ k=>simp only [jc,cV (sW k),ay,sN,cu,I,List.eraseIdx_cons_succ]
theorem xX {d:TypeDesc}{a b:V}(h:keyBeq d a b=some true)(J:wf c a)(hb:wf c b): conc c a=conc c b∧∀n,Instr.sameBits n (conc c b) (conc c a)=true:=by
 unfold keyBeq at h
 split at h
 ·rename_i j x k y
  cases I:ikBeq j k with
  | false=>simp [I] at h
  | true =>
   have:=mJ I
   subst this
   simp only [I,af,aj,lp,beq_iff_eq] at h
   subst h
   exact ⟨rfl,fun n=>by cases n <;> simp [conc,Instr.sameBits]⟩
 ·rename_i x y
  simp only [aj,pY,beq_iff_eq] at h
  subst h
  refine ⟨rfl,fun n => ?_⟩
  have:((⟨(x.map UInt8.ofNat).toArray⟩:ByteArray) == ⟨(x.map UInt8.ofNat).toArray⟩)=true:=by
   rw [vj (by simpa [wf] using J) (by simpa [wf] using J),pY]; simp
  cases n <;> simp [conc,Instr.sameBits,this]
 ·simp at h
theorem tw {t:TypeId}{x k v:V}{dU:H}(h:Rel c σ w)(I:mapUpdateV P σ t x k v=some dU)(hk:wf c k)(hv:wf c v):
  LU P (Instr.mapUpdate t (conc c x) (conc c k) (conc c v)) c w dU:=by
 unfold mapUpdateV at I
 generalize ht:P.underlying t=dt at I
 split at I
 ·rename_i kt et
  generalize hd:P.underlying kt=dk at I
  split at I
  ·rename_i d id
   split at I
   ·rename_i es clock hg
    obtain ⟨hw,hb⟩:=h.obj id _ hg
    have nt:=iQ (P:=P) hb (by simp)
    split at I
    ·rename_i b i u qP hf
     simp only [aj] at I
     subst I
     have qU:=jJ (P:=P) hd hk hf hw w
     obtain ⟨e,g1,_,g3,g4⟩:=(uc hk es 0 _ hf hw).2 (i,u) rfl
     simp only [j7] at g1
     have NT:=hw e (aV g1)
     obtain ⟨s1,s2⟩:=xX g4 hk NT.1
     have hm:=h.qR (es':=setNth es i fun e=>(e.1,v,e.2.2)) (k':=clock) hg (by
      intro y J
      rcases zC J with J | ⟨z,hz,rfl⟩
      ·exact hw y J
      ·exact ⟨(hw z hz).1,hv⟩)
     refine ⟨_,_,?_,hm.1,hm.2⟩
     simp only [Instr.mapUpdate,Sem.run_bind,run_underlying ht,Result.andThen_ok,conc,nt]
     rw [h_ hd qP]
     simp only [Result.andThen_ok,qU,gY,Sem.run_bind]
     have xS:((es.map (bN c)).toArray[i]?.map (·.key)).getD (conc c k)=conc c e.1:=by simp [g1,bN]
     rw [xS]
     simp only [Instr.keyThatStays,s2,bB,Sem.run_pure,Result.andThen_ok]
     rw [jH hb (by simp)]
     congr 3
     rw [zB (bN c) _ (fun e=>{ e with val:=conc c v }) (by intro y; simp [bN])]
     rw [A3]
     congr 2
     -- the key that stays is the elder one
     apply qo
     intro j
     simp only [List.getElem?_modify]
     by_cases hj:i=j
     ·subst hj
      simp [g1,bN,s1]
     ·simp [hj]
    ·rename_i b qP hf
     simp only [aj] at I
     subst I
     have qU:=jJ (P:=P) hd hk hf hw w
     have hm:=h.qR (es':=es++[(k,v,clock)]) (k':=clock+1) hg (by
      intro y J
      simp only [od,sO] at J
      rcases J with J | rfl
      ·exact hw y J
      ·exact ⟨hk,hv⟩)
     refine ⟨_,_,?_,hm.1,hm.2⟩
     simp only [Instr.mapUpdate,Sem.run_bind,run_underlying ht,Result.andThen_ok,conc,nt]
     rw [h_ hd qP]
     simp only [Result.andThen_ok,qU,gJ]
     rw [jH hb (by simp)]
     congr 3
     simp [bN]
    ·simp at I
   ·simp at I
  ·simp at I
 ·simp at I
theorem CQ {t:TypeId}{x k v:V}{dU:H}(h:Rel c σ w)(I:mapEntryV P σ t x k=some (v,dU))(hk:wf c k):
  fM P (Instr.mapEntry t (conc c x) (conc c k)) c w v dU:=by
 unfold mapEntryV at I
 generalize ht:P.underlying t=dt at I
 split at I
 ·rename_i kt et
  generalize hd:P.underlying kt=dk at I
  split at I
  ·rename_i d z id hz
   obtain ⟨z1,z2⟩:=eX hz c w
   split at I
   ·rename_i es clock hg
    obtain ⟨hw,hb⟩:=h.obj id _ hg
    have nt:=iQ (P:=P) hb (by simp)
    split at I
    ·rename_i b i u J hf
     rw [eW] at I
     have qU:=jJ (P:=P) hd hk hf hw w
     obtain ⟨e,g1,_,g3,g4⟩:=(uc hk es 0 _ hf hw).2 (i,u) rfl
     simp only [j7] at g1
     simp only [g1,aj,aC] at I
     obtain ⟨rfl,rfl⟩:=I
     have NT:=hw e (aV g1)
     obtain ⟨s1,s2⟩:=xX g4 hk NT.1
     have hu:wf c u:=by simp only at g3; rw [g3]; exact NT.2
     refine fM.same h ⟨?_,by simp [wf,ej,hu]⟩
     simp only [Instr.mapEntry,Sem.run_bind,run_underlying ht,Result.andThen_ok,conc,nt]
     rw [h_ hd J]
     simp only [Result.andThen_ok,qU,gY,Sem.run_bind]
     have xS:((es.map (bN c)).toArray[i]?.map (·.key)).getD (conc c k)=conc c e.1:=by simp [g1,bN]
     rw [xS]
     simp only [Instr.keyThatStays,s2,bB,Sem.run_pure,Result.andThen_ok]
     rw [jH hb (by simp)]
     have HB:({ w with heap:=w.heap.setIfInBounds (c.ρ id).1 (.map ((es.map (bN c)).toArray.modify i fun e=>{ e with key:=conc c k }) clock) }:World)=w:=by
      have:(es.map (bN c)).toArray.modify i (fun e=>{ e with key:=conc c k })=(es.map (bN c)).toArray:=by
       rw [A3]
       congr 1
       apply qo
       intro j
       simp only [List.getElem?_modify]
       by_cases hj:i=j
       ·subst hj; simp [g1,bN,s1]
       ·simp [hj]
      rw [this]
      obtain ⟨aY,m5⟩:=Array.getElem?_eq_some_iff.1 hb
      have:w.heap.setIfInBounds (c.ρ id).1 (.map (es.map (bN c)).toArray clock)=w.heap:=by
       apply n4
       intro j
       rw [ju]
       by_cases hj:(c.ρ id).1=j
       ·subst hj; simp [aY,m5]
       ·simp [hj]
      rw [this]
     rw [HB]
     simp [g1,bN,conc,concL,goInt]
    ·rename_i b J hf
     simp only [aj,aC] at I
     obtain ⟨rfl,rfl⟩:=I
     have qU:=jJ (P:=P) hd hk hf hw w
     have hm:=h.qR (es':=es++[(k,z,clock)]) (k':=clock+1) hg (by
      intro y hy
      simp only [od,sO] at hy
      rcases hy with hy | rfl
      ·exact hw y hy
      ·exact ⟨hk,z2⟩)
     refine ⟨_,_,?_,by simp [wf,ej,z2],hm.1,hm.2⟩
     simp only [Instr.mapEntry,Sem.run_bind,run_underlying ht,Result.andThen_ok,conc,nt]
     rw [h_ hd J]
     simp only [Result.andThen_ok,qU,gJ,Sem.run_bind,z1]
     rw [jH hb (by simp)]
     simp [bN,concL,conc,goInt]
    ·simp at I
   ·simp at I
  ·simp at I
 ·simp at I
theorem Fo (c:Ctx)(b:Int): ∀(es:List (V×V×Nat)) (i j:Nat),findBorn es b i=some j →
  (es.map (bN c)).findIdx? (fun e=>(e.born:Int) == b)=some (j-i)∧i≤j:=by
 intro es
 induction es with
 | nil=>intro i j h; simp [findBorn] at h
 | cons e es ih =>
  intro i j h
  simp only [findBorn,lp] at h
  by_cases I:(e.2.2:Int)=b
  ·have:((e.2.2:Int) == b)=true:=by simpa using I
   rw [this,af,aj] at h
   subst h
   simp [List.findIdx?_cons,bN,I]
  ·have:((e.2.2:Int) == b)=false:=by simpa using I
   rw [this,ay] at h
   obtain ⟨h1,h2⟩:=ih (i+1) j h
   refine ⟨?_,by omega⟩
   rw [cu,List.findIdx?_cons,h1]
   have J:(((bN c e).born:Int) == b)=false:=by simpa [bN] using I
   rw [J]
   simp
   omega
theorem zD {t:TypeId}{x s v:V}{J:H}(h:Rel c σ w)(I:entryStoreV σ x s v=some J)(hv:wf c v):
  LU P (Instr.entryStore t (conc c x) (conc c s) (conc c v)) c w J:=by
 unfold entryStoreV at I
 split at I
 ·rename_i id k b
  split at I
  ·rename_i es clock hg
   obtain ⟨hw,hb⟩:=h.obj id _ hg
   have nt:=iQ (P:=P) hb (by simp)
   cases hf:findBorn es b 0 with
   | none=>simp [hf] at I
   | some i =>
    simp only [hf,aj] at I
    subst I
    have Uj:=(Fo c b es 0 i hf).1
    have hm:=h.qR (es':=setNth es i fun e=>(e.1,v,e.2.2)) (k':=clock) hg (by
     intro y hy
     rcases zC hy with hy | ⟨z,hz,rfl⟩
     ·exact hw y hy
     ·exact ⟨(hw z hz).1,hv⟩)
    refine ⟨_,_,?_,hm.1,hm.2⟩
    simp only [Instr.entryStore,conc,Sem.run_bind,nt,Result.andThen_ok,asInt,asIntOf,Sem.run_pure]
    have W5:(es.map (bN c)).toArray.findIdx? (fun e=>(e.born:Int) == b)=some i:=by
     simpa using Uj
    rw [W5]
    simp only
    rw [jH hb (by simp)]
    congr 3
    rw [zB (bN c) _ (fun e=>{ e with val:=conc c v }) (by intro y; simp [bN])]
    rw [A3]
  ·simp at I
 ·simp at I
theorem Fp {t ty:TypeId}{x k:V}{dU:H}(h:Rel c σ w)(I:m0 P σ t x k=some dU)(hk:wf c k)(ts:Array TypeId)(lu:ts[0]?=some t):
  ∃w' c',(Builtin.delete_ ts ty #[conc c x,conc c k]).run P w=.ok (.tuple #[]) w'∧Rel c' dU w'∧b7 c w c' w':=by
 unfold m0 at I
 generalize ht:P.underlying t=dt at I
 split at I
 ·rename_i kt et
  generalize hd:P.underlying kt=dk at I
  split at I
  ·rename_i d id
   split at I
   ·rename_i es clock hg
    obtain ⟨hw,hb⟩:=h.obj id _ hg
    have nt:=iQ (P:=P) hb (by simp)
    split at I
    ·rename_i b i u J hf
     simp only [aj] at I
     subst I
     have qU:=jJ (P:=P) hd hk hf hw w
     have hm:=h.qR (es':=jc es i) (k':=clock) hg (by
      intro y hy
      rw [HA] at hy
      exact hw y (List.mem_of_mem_eraseIdx hy))
     refine ⟨_,_,?_,hm.1,hm.2⟩
     simp only [Builtin.delete_,lu,lU,mQ,j4,Sem.run_bind,run_underlying ht,Result.andThen_ok,conc,nt]
     rw [h_ hd J]
     simp only [Result.andThen_ok,qU,gY,Sem.run_bind]
     rw [jH hb (by simp)]
     simp [Fk]
    ·rename_i b J hf
     simp only [aj] at I
     subst I
     have qU:=jJ (P:=P) hd hk hf hw w
     have hm:=h.qR (es':=es) (k':=clock) hg hw
     refine ⟨w,c,?_,h,b7.refl c w⟩
     simp only [Builtin.delete_,lu,lU,mQ,j4,Sem.run_bind,run_underlying ht,Result.andThen_ok,conc,nt]
     rw [h_ hd J]
     simp only [Result.andThen_ok,qU,gJ,Sem.run_bind]
     rw [jH hb (by simp)]
     obtain ⟨aY,m5⟩:=Array.getElem?_eq_some_iff.1 hb
     have:w.heap.setIfInBounds (c.ρ id).1 (.map (es.map (bN c)).toArray clock)=w.heap:=by
      apply n4
      intro j
      rw [ju]
      by_cases hj:(c.ρ id).1=j
      ·subst hj; simp [aY,m5]
      ·simp [hj]
     simp [this]
    ·simp at I
   ·simp at I
  ·simp at I
 ·simp at I
end
end Go.Proofs.YtefepnnfphdkpaaGreat.Am
