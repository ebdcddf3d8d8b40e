import Derived.Test.YtgmiodjnojkdkaaGreatDoorProg
import Derived.WalkKit
import Derived.Deep.LoopGhost
import Derived.Lib.Walk
import Derived.Maps.RangeRun
import Derived.Deep.QuietTactic
import Derived.BigQuiet
import Derived.Handy
import Derived.Test.YtgmiodjnojkdkaaGreatDoorC9
set_option linter.all false
section
set_option maxRecDepth 100000
namespace Go.Av.G
open Go Go.Proofs Go.RowKit Go.ChangeMaps
def Ca:List (List UInt8×Int×Int):=[([111,114],13,1),([97,110,100],12,2),([60],7,4),([60,61],8,4),([61],9,4),([62],10,4),([62,61],11,4),([43],3,5),([45],4,5),([42],5,6),([47],6,6)]
def placeOf(kind:Int):Int×List UInt8×Int×Int:=match Ca.find? (fun p=>p.2.1==kind) with
 |some p=>(p.2.2,p.1,if p.2.2=4 then 5 else p.2.2,p.2.2+1)
 |none=>(8,[],0,0)
theorem A98: ∀p∈Ca,placeOf p.2.1=(p.2.2,p.1,if p.2.2=4 then 5 else p.2.2,p.2.2+1)∧wrap64 (p.2.2+1)=p.2.2+1:=by
 intro p hp
 simp only[Ca,List.mem_cons,List.not_mem_nil,or_false] at hp
 rcases hp with rfl|rfl|rfl|rfl|rfl|rfl|rfl|rfl|rfl|rfl|rfl<;>exact⟨by decide,by kernel_rfl⟩
theorem A5b{kind:Int}(h: ∀p∈Ca,¬p.2.1=kind):placeOf kind=(8,[],0,0):=by
 unfold placeOf
 rw[List.find?_eq_none.2 (fun p hp=>by simpa using h p hp)]
theorem Bel: ∀p∈Ca,∀q∈Ca,p.1=q.1→p=q:=by decide
theorem below_drewN'{B:Nat}{a w:World}(h:Below B a w): ∀n,Below B a (w.drewN n)
 |0=>h
 |n+1=>(below_drewN' h n).drew
theorem Bin{B:Nat}{a w:World}(h:Below B a w){r:Nat}(hr:B≤r)(o:Obj):Below B a (setBlock w r o):=
 ⟨h.os,h.tape,h.output,by simpa [setBlock] using h.size,fun k hk=>by
  rw[←h.block k hk]
  simp only[setBlock]
  rw[Array.getElem?_setIfInBounds]
  rw[if_neg (by omega)]⟩
theorem Bem(kind:Int)(w:World)(hs:Calls Tryz.prog 98 #[] w fun e w1=> ∃(bm:Nat) (es:Array MapEntry) (clock:Nat),e= .returned (.map (some bm))∧Below w.heap.size w w1∧w.heap.size≤bm∧w1.heap[bm]? =some (.map es clock)∧
   ((es.toList.map (·.born)).Nodup∧ ∀x∈es.toList,x.born<clock)∧(∀x∈es.toList,∃p∈Ca,x.key= .string ⟨p.1.toArray⟩∧x.val= .agg #[.int .i64 p.2.1,.int .i64 p.2.2])∧
   (∀p∈Ca,∃x∈es.toList,x.key= .string ⟨p.1.toArray⟩∧x.val= .agg #[.int .i64 p.2.1,.int .i64 p.2.2])):
  Calls Tryz.prog 67 #[.int .i64 kind] w fun e w'=>e= .returned (.tuple #[.int .i64 (placeOf kind).1,.string ⟨(placeOf kind).2.1.toArray⟩,.int .i64 (placeOf kind).2.2.1,.int .i64 (placeOf kind).2.2.2])∧Below w.heap.size w w':=by
 go_enter Tryz.func67,Tryz.ntmps67
 go_wp2_with (first|(go_at_call 98;refine hs.mono ?_;rintro e w1 ⟨bm,es,clock,rfl,hb,hbm,hm,hst,hx,hp⟩;have hrg:=run_range_map (P:=Tryz.prog) w1 133 9 136 bm es clock Tryz.underlying133 hm))
 have hr0:(w1.alloc (.mapIter (some bm) clock #[] clock)).heap[w1.heap.size]? =some (.mapIter (some bm) clock #[] clock):=heap_alloc_new _ _
 have hbl:bm<w1.heap.size:=(Array.getElem?_eq_some_iff.1 hm).1
 obtain⟨r,hr⟩: ∃r,r=w1.heap.size:=⟨_,rfl⟩
 have hrb:w.heap.size≤r:=by rw[hr];exact hb.size
 rw[←hr] at hr0⊢
 have hm0:(w1.alloc (.mapIter (some bm) clock #[] clock)).heap[bm]? =some (.map es clock):=by rw[heap_alloc_old _ _ hbl];exact hm
 have hb0:Below w.heap.size w (w1.alloc (.mapIter (some bm) clock #[] clock)):=hb.alloc hb.size _
 have hne:r≠bm:=by omega
 generalize w1.alloc (.mapIter (some bm) clock #[] clock)=W at hr0 hm0 hb0⊢
 clear hrg hm hb hbl hr w1
 go_loopw [] (fun wr=> ∃(seen:Array Nat),Below w.heap.size w wr∧wr.heap[bm]? =some (.map es clock)∧wr.heap[r]? =some (.mapIter (some bm) clock seen clock)∧ ∀x∈es.toList,seen.contains x.born=true→ ∀p∈Ca,x.key= .string ⟨p.1.toArray⟩→ ¬p.2.1=kind) (fun wr=>(leftOf es (wr.iterSeen r)).size)
 case atStart=>exact⟨#[],hb0,hm0,hr0,fun x _ h=>by simp at h⟩
 case round=>
  obtain⟨seen,hb,hm,hr,hno⟩:=hrel
  have law:=run_next_at (P:=Tryz.prog) wr 0 r bm clock clock seen es clock hr hm hst.2 (Nat.le_refl _)
  rcases law with⟨h0,hrun⟩|⟨e,he,w2,hal,hrun⟩
  ·have hnx: ∀ty,(Instr.next (.pointer (some ⟨r,0,none⟩)) false ty).run Tryz.prog wr=_:=fun _=>hrun
   go_wp2
   have hn:placeOf kind=(8,[],0,0):=A5b fun p hp' hk=>by
    obtain⟨x,hx1,hx2,hx3⟩:=hp p hp'
    exact hno x hx1 (all_seen es seen h0 x hx1) p hp' hx2 hk
   go_returns
   rw[hn]
   exact⟨rfl,hb⟩
  ·obtain⟨p,hp1,hk,hv⟩:=hx e (mem_left he).1
   have hb2:Below w.heap.size w w2:=by
    rcases hal with rfl|rfl
    ·exact hb
    ·exact hb.drew
   have hm2:(setBlock w2 r (.mapIter (some bm) clock (seen.push e.born) clock)).heap[bm]? =some (.map es clock):=by
    simp only[setBlock]
    rw[Array.getElem?_setIfInBounds,if_neg hne]
    rcases hal with rfl|rfl<;>exact hm
   have hrl:r<w2.heap.size:=by
    have:=(Array.getElem?_eq_some_iff.1 hr).1
    rcases hal with rfl|rfl<;>exact this
   have hr2:(setBlock w2 r (.mapIter (some bm) clock (seen.push e.born) clock)).heap[r]? =some (.mapIter (some bm) clock (seen.push e.born) clock):=by
    simp only[setBlock]
    rw[Array.getElem?_setIfInBounds,if_pos rfl,if_pos hrl]
   have hb3:=Bin hb2 hrb (.mapIter (some bm) clock (seen.push e.born) clock)
   have hen:=run_entry_at (P:=Tryz.prog) _ r bm clock seen es clock e hr2 hm2 (mem_left he).1 hst.1
   rw[hk,hv] at hrun hen
   have hnx: ∀ty,(Instr.next (.pointer (some ⟨r,0,none⟩)) false ty).run Tryz.prog wr=_:=fun _=>hrun
   generalize setBlock w2 r (.mapIter (some bm) clock (seen.push e.born) clock)=W2 at hm2 hr2 hb3 hen hnx hrun
   obtain⟨s,k,l⟩:=p
   have mixed:Tryz.prog.follows .mixedOrders=true:=by kernel_rfl
   obtain⟨hpl,hwr⟩:=A98 _ hp1
   have hc1:(W2.alloc (.cells #[.int .i64 k,.int .i64 l] 136)).cell? ⟨W2.heap.size,1,none⟩=some (.int .i64 l):=by
    simp only[World.cell?,heap_alloc_new];rfl
   go_wp2
   ·go_quiet (fail)
    go_wp2
    go_returns
    have e1:k=kind:=by simpa using ‹(k==kind)=true›
    have e2:l=4:=by simpa using ‹(l==4)=true›
    refine⟨?_,below_drewN' (hb3.alloc hb3.size _) _⟩
    rw[←e1,hpl,hwr,if_pos e2,e2]
    rfl
   ·go_quiet (fail)
    go_wp2
    go_returns
    have e1:k=kind:=by simpa using ‹(k==kind)=true›
    have e2: ¬l=4:=by first|simpa using ‹¬(l==4)=true›|simpa using ‹(l==4)=false›
    refine⟨?_,below_drewN' (hb3.alloc hb3.size _) _⟩
    rw[←e1,hpl,hwr,if_neg e2]
   ·rename_i hk1
    have e1: ¬k=kind:=by simpa using hk1
    have hbl:bm<W2.heap.size:=(Array.getElem?_eq_some_iff.1 hm2).1
    have hrl2:r<W2.heap.size:=(Array.getElem?_eq_some_iff.1 hr2).1
    have hr3:(W2.alloc (.cells #[.int .i64 k,.int .i64 l] 136)).heap[r]? =some (.mapIter (some bm) clock (seen.push e.born) clock):=by rw[heap_alloc_old _ _ hrl2];exact hr2
    refine⟨⟨seen.push e.born,hb3.alloc hb3.size _,by rw[heap_alloc_old _ _ hbl];exact hm2,hr3,fun x hx1 hc p hp' hxk=>?_⟩,?_⟩
    ·rw[contains_push] at hc
     rcases Bool.or_eq_true _ _▸hc with h1|h1
     ·exact hno x hx1 h1 p hp' hxk
     ·have hxe:x=e:=born_inj hst.1 hx1 (mem_left he).1 (beq_iff_eq.1 h1)
      rw[hxe,hk] at hxk
      have hps:p.1=s:=by
       injection hxk with hxk
       injection hxk with hxk
       have:=congrArg Array.toList hxk
       simpa using this.symm
      have:=Bel p hp' _ hp1 hps
      rw[this]
      exact e1
    ·have s1:(W2.alloc (.cells #[.int .i64 k,.int .i64 l] 136)).iterSeen r=seen.push e.born:=by unfold World.iterSeen;rw[hr3]
     have s2:wr.iterSeen r=seen:=by unfold World.iterSeen;rw[hr]
     rw[s1,s2]
     exact left_shrinks es seen e he
end Go.Av.G
end
